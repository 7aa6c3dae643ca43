/- The walks of the functions, written by a program: the program that is walked. No statement is proved here. -/
import Derived.Test.YthgleoodmgophaaVm9
import Derived.Test.YthgleoodmgophaaProg
namespace Go.Lead
open Go Go.Proofs
noncomputable abbrev PR : Program := Try.prog
theorem mixed : PR.follows .mixedOrders = true := by kernel_rfl
abbrev i_impl_SatCore_d1 : FuncId := 67
abbrev i_impl_CnfOk_d1 : FuncId := 96
abbrev i_impl_clauseOk_d1 : FuncId := 101
abbrev i_impl_clausesHold_d1 : FuncId := 108
abbrev i_impl_clausesHold_d1_d1 : FuncId := 109
abbrev c_laws_FnCore (args : Array Value) (h : Hp) (R : Value → Hp → Prop) : Prop := ACalls PR 4 args h R
abbrev c_spec_DrawSatCore (args : Array Value) (h : Hp) (R : Value → Hp → Prop) : Prop := ACalls PR 22 args h R
abbrev c_impl_SatCore (args : Array Value) (h : Hp) (R : Value → Hp → Prop) : Prop := ACalls PR 23 args h R
abbrev c_spec_SatCore (args : Array Value) (h : Hp) (R : Value → Hp → Prop) : Prop := ACalls PR 24 args h R
abbrev c_laws_ldInts (args : Array Value) (h : Hp) (R : Value → Hp → Prop) : Prop := ACalls PR 25 args h R
abbrev c_spec_SatLeast (args : Array Value) (h : Hp) (R : Value → Hp → Prop) : Prop := ACalls PR 26 args h R
abbrev c_spec_CnfOk (args : Array Value) (h : Hp) (R : Value → Hp → Prop) : Prop := ACalls PR 27 args h R
abbrev c_impl_SatLeast (args : Array Value) (h : Hp) (R : Value → Hp → Prop) : Prop := ACalls PR 28 args h R
abbrev c_spec_l1In (args : Array Value) (h : Hp) (R : Value → Hp → Prop) : Prop := ACalls PR 53 args h R
abbrev c_spec_l17Open (args : Array Value) (h : Hp) (R : Value → Hp → Prop) : Prop := ACalls PR 61 args h R
abbrev c_spec_l17Rd_cnf (args : Array Value) (h : Hp) (R : Value → Hp → Prop) : Prop := ACalls PR 62 args h R
abbrev c_impl_CnfOk (args : Array Value) (h : Hp) (R : Value → Hp → Prop) : Prop := ACalls PR 63 args h R
abbrev c_impl_least (args : Array Value) (h : Hp) (R : Value → Hp → Prop) : Prop := ACalls PR 64 args h R
abbrev c_slices_DeleteFunc_Sint_int (args : Array Value) (h : Hp) (R : Value → Hp → Prop) : Prop := ACalls PR 65 args h R
abbrev c_slices_Clone_Sint_int (args : Array Value) (h : Hp) (R : Value → Hp → Prop) : Prop := ACalls PR 66 args h R
abbrev c_impl_SatCore_d1 (args : Array Value) (h : Hp) (R : Value → Hp → Prop) : Prop := ACalls PR 67 args h R
abbrev c_impl_cloneInts (args : Array Value) (h : Hp) (R : Value → Hp → Prop) : Prop := ACalls PR 68 args h R
abbrev c_spec_l10Every (args : Array Value) (h : Hp) (R : Value → Hp → Prop) : Prop := ACalls PR 69 args h R
abbrev c_spec_l10Least (args : Array Value) (h : Hp) (R : Value → Hp → Prop) : Prop := ACalls PR 70 args h R
abbrev c_spec_l10Clause (args : Array Value) (h : Hp) (R : Value → Hp → Prop) : Prop := ACalls PR 71 args h R
abbrev c_impl_clauseOk (args : Array Value) (h : Hp) (R : Value → Hp → Prop) : Prop := ACalls PR 74 args h R
abbrev c_spec_l10All (args : Array Value) (h : Hp) (R : Value → Hp → Prop) : Prop := ACalls PR 84 args h R
abbrev c_impl_clausesHold (args : Array Value) (h : Hp) (R : Value → Hp → Prop) : Prop := ACalls PR 87 args h R
abbrev c_impl_in (args : Array Value) (h : Hp) (R : Value → Hp → Prop) : Prop := ACalls PR 90 args h R
abbrev c_spec_l17Rd_pick (args : Array Value) (h : Hp) (R : Value → Hp → Prop) : Prop := ACalls PR 94 args h R
abbrev c_slices_ContainsFunc_SSint_Sint (args : Array Value) (h : Hp) (R : Value → Hp → Prop) : Prop := ACalls PR 95 args h R
abbrev c_impl_CnfOk_d1 (args : Array Value) (h : Hp) (R : Value → Hp → Prop) : Prop := ACalls PR 96 args h R
abbrev c_slices_IndexFunc_Sint_int (args : Array Value) (h : Hp) (R : Value → Hp → Prop) : Prop := ACalls PR 97 args h R
abbrev c_spec_l10Literal (args : Array Value) (h : Hp) (R : Value → Hp → Prop) : Prop := ACalls PR 98 args h R
abbrev c_slices_ContainsFunc_Sint_int (args : Array Value) (h : Hp) (R : Value → Hp → Prop) : Prop := ACalls PR 100 args h R
abbrev c_impl_clauseOk_d1 (args : Array Value) (h : Hp) (R : Value → Hp → Prop) : Prop := ACalls PR 101 args h R
abbrev c_spec_l10Any (args : Array Value) (h : Hp) (R : Value → Hp → Prop) : Prop := ACalls PR 106 args h R
abbrev c_impl_clausesHold_d1 (args : Array Value) (h : Hp) (R : Value → Hp → Prop) : Prop := ACalls PR 108 args h R
abbrev c_impl_clausesHold_d1_d1 (args : Array Value) (h : Hp) (R : Value → Hp → Prop) : Prop := ACalls PR 109 args h R
abbrev c_impl_literal (args : Array Value) (h : Hp) (R : Value → Hp → Prop) : Prop := ACalls PR 110 args h R
abbrev c_slices_IndexFunc_SSint_Sint (args : Array Value) (h : Hp) (R : Value → Hp → Prop) : Prop := ACalls PR 112 args h R
abbrev c_spec_l10True (args : Array Value) (h : Hp) (R : Value → Hp → Prop) : Prop := ACalls PR 113 args h R
abbrev c_spec_l1Bit (args : Array Value) (h : Hp) (R : Value → Hp → Prop) : Prop := ACalls PR 115 args h R
end Go.Lead
