/- The walks of the functions, written by a program: the program that is walked. No statement is proved here. -/
import Derived.Test.YthgleoodmgophaaVm9
import Derived.Test.YthgleoodmgophaaProg
namespace Go.Lead
open Go Go.Proofs
noncomputable abbrev PR : Program := Try.prog
theorem mixed : PR.follows .mixedOrders = true := by kernel_rfl
abbrev c_laws_FnExactBddFrom (args : Array Value) (h : Hp) (R : Value → Hp → Prop) : Prop := ACalls PR 3 args h R
abbrev c_spec_BddFrom (args : Array Value) (h : Hp) (R : Value → Hp → Prop) : Prop := ACalls PR 14 args h R
abbrev c_laws_toIntS (args : Array Value) (h : Hp) (R : Value → Hp → Prop) : Prop := ACalls PR 15 args h R
abbrev c_impl_BddFrom (args : Array Value) (h : Hp) (R : Value → Hp → Prop) : Prop := ACalls PR 16 args h R
abbrev c_laws_eqBdd (args : Array Value) (h : Hp) (R : Value → Hp → Prop) : Prop := ACalls PR 17 args h R
abbrev c_laws_eqIntS (args : Array Value) (h : Hp) (R : Value → Hp → Prop) : Prop := ACalls PR 18 args h R
abbrev c_laws_markIntS (args : Array Value) (h : Hp) (R : Value → Hp → Prop) : Prop := ACalls PR 19 args h R
abbrev c_laws_markBdd (args : Array Value) (h : Hp) (R : Value → Hp → Prop) : Prop := ACalls PR 20 args h R
abbrev c_laws_heldBdd (args : Array Value) (h : Hp) (R : Value → Hp → Prop) : Prop := ACalls PR 21 args h R
abbrev c_spec_l7Vars (args : Array Value) (h : Hp) (R : Value → Hp → Prop) : Prop := ACalls PR 52 args h R
abbrev c_spec_l1In (args : Array Value) (h : Hp) (R : Value → Hp → Prop) : Prop := ACalls PR 53 args h R
abbrev c_spec_l7Of (args : Array Value) (h : Hp) (R : Value → Hp → Prop) : Prop := ACalls PR 54 args h R
abbrev c_impl_isVars (args : Array Value) (h : Hp) (R : Value → Hp → Prop) : Prop := ACalls PR 55 args h R
abbrev c_impl_below (args : Array Value) (h : Hp) (R : Value → Hp → Prop) : Prop := ACalls PR 56 args h R
abbrev c_impl_table_diagram (args : Array Value) (h : Hp) (R : Value → Hp → Prop) : Prop := ACalls PR 57 args h R
abbrev c_laws_eqBddNodeS (args : Array Value) (h : Hp) (R : Value → Hp → Prop) : Prop := ACalls PR 58 args h R
abbrev c_laws_markBddNodeS (args : Array Value) (h : Hp) (R : Value → Hp → Prop) : Prop := ACalls PR 59 args h R
abbrev c_laws_heldBddNodeS (args : Array Value) (h : Hp) (R : Value → Hp → Prop) : Prop := ACalls PR 60 args h R
abbrev c_spec_l7Maker_make (args : Array Value) (h : Hp) (R : Value → Hp → Prop) : Prop := ACalls PR 89 args h R
abbrev c_impl_in (args : Array Value) (h : Hp) (R : Value → Hp → Prop) : Prop := ACalls PR 90 args h R
abbrev c_impl_builder_build (args : Array Value) (h : Hp) (R : Value → Hp → Prop) : Prop := ACalls PR 91 args h R
abbrev c_impl_Bdd_clone (args : Array Value) (h : Hp) (R : Value → Hp → Prop) : Prop := ACalls PR 92 args h R
abbrev c_laws_eqBddNode (args : Array Value) (h : Hp) (R : Value → Hp → Prop) : Prop := ACalls PR 93 args h R
abbrev c_spec_l1Yes (args : Array Value) (h : Hp) (R : Value → Hp → Prop) : Prop := ACalls PR 111 args h R
abbrev T_impl_BddNode : TypeId := 105
end Go.Lead
