/- The walks of the functions, written by a program: the program that is walked. No statement is proved here. -/
import Derived.Test.YthcnlmahlmndhaaVm9
import Derived.Test.YthcnlmahlmndhaaProg
namespace Go.Lead
open Go Go.Proofs
noncomputable abbrev PR : Program := Try.prog
theorem mixed : PR.follows .mixedOrders = true := by kernel_rfl
abbrev i_impl_CnfOk_d1 : FuncId := 35
abbrev i_impl_clauseOk_d1 : FuncId := 64
abbrev c_laws_FnUnits (args : Array Value) (h : Hp) (R : Value → Hp → Prop) : Prop := ACalls PR 8 args h R
abbrev c_spec_CnfOk (args : Array Value) (h : Hp) (R : Value → Hp → Prop) : Prop := ACalls PR 10 args h R
abbrev c_impl_CnfOk (args : Array Value) (h : Hp) (R : Value → Hp → Prop) : Prop := ACalls PR 12 args h R
abbrev c_spec_SatLeast (args : Array Value) (h : Hp) (R : Value → Hp → Prop) : Prop := ACalls PR 23 args h R
abbrev c_spec_DrawSatUnits (args : Array Value) (h : Hp) (R : Value → Hp → Prop) : Prop := ACalls PR 25 args h R
abbrev c_impl_SatUnits (args : Array Value) (h : Hp) (R : Value → Hp → Prop) : Prop := ACalls PR 26 args h R
abbrev c_spec_SatUnits (args : Array Value) (h : Hp) (R : Value → Hp → Prop) : Prop := ACalls PR 27 args h R
abbrev c_laws_ldInts (args : Array Value) (h : Hp) (R : Value → Hp → Prop) : Prop := ACalls PR 28 args h R
abbrev c_spec_l1In (args : Array Value) (h : Hp) (R : Value → Hp → Prop) : Prop := ACalls PR 30 args h R
abbrev c_spec_l10Clause (args : Array Value) (h : Hp) (R : Value → Hp → Prop) : Prop := ACalls PR 31 args h R
abbrev c_impl_in (args : Array Value) (h : Hp) (R : Value → Hp → Prop) : Prop := ACalls PR 33 args h R
abbrev c_slices_ContainsFunc_SSint_Sint (args : Array Value) (h : Hp) (R : Value → Hp → Prop) : Prop := ACalls PR 34 args h R
abbrev c_impl_CnfOk_d1 (args : Array Value) (h : Hp) (R : Value → Hp → Prop) : Prop := ACalls PR 35 args h R
abbrev c_impl_clauseOk (args : Array Value) (h : Hp) (R : Value → Hp → Prop) : Prop := ACalls PR 36 args h R
abbrev c_spec_l10All (args : Array Value) (h : Hp) (R : Value → Hp → Prop) : Prop := ACalls PR 47 args h R
abbrev c_spec_l10Every (args : Array Value) (h : Hp) (R : Value → Hp → Prop) : Prop := ACalls PR 48 args h R
abbrev c_spec_l10Least (args : Array Value) (h : Hp) (R : Value → Hp → Prop) : Prop := ACalls PR 50 args h R
abbrev c_spec_l17Open (args : Array Value) (h : Hp) (R : Value → Hp → Prop) : Prop := ACalls PR 52 args h R
abbrev c_spec_l17Rd_cnf (args : Array Value) (h : Hp) (R : Value → Hp → Prop) : Prop := ACalls PR 53 args h R
abbrev c_spec_l17Rd_pick (args : Array Value) (h : Hp) (R : Value → Hp → Prop) : Prop := ACalls PR 54 args h R
abbrev c_spec_l17Some (args : Array Value) (h : Hp) (R : Value → Hp → Prop) : Prop := ACalls PR 55 args h R
abbrev c_impl_units (args : Array Value) (h : Hp) (R : Value → Hp → Prop) : Prop := ACalls PR 56 args h R
abbrev c_spec_l10Units (args : Array Value) (h : Hp) (R : Value → Hp → Prop) : Prop := ACalls PR 57 args h R
abbrev c_spec_l10Has (args : Array Value) (h : Hp) (R : Value → Hp → Prop) : Prop := ACalls PR 58 args h R
abbrev c_spec_l10Literal (args : Array Value) (h : Hp) (R : Value → Hp → Prop) : Prop := ACalls PR 60 args h R
abbrev c_slices_IndexFunc_SSint_Sint (args : Array Value) (h : Hp) (R : Value → Hp → Prop) : Prop := ACalls PR 62 args h R
abbrev c_slices_ContainsFunc_Sint_int (args : Array Value) (h : Hp) (R : Value → Hp → Prop) : Prop := ACalls PR 63 args h R
abbrev c_impl_clauseOk_d1 (args : Array Value) (h : Hp) (R : Value → Hp → Prop) : Prop := ACalls PR 64 args h R
abbrev c_spec_l10Any (args : Array Value) (h : Hp) (R : Value → Hp → Prop) : Prop := ACalls PR 69 args h R
abbrev c_spec_l10Left (args : Array Value) (h : Hp) (R : Value → Hp → Prop) : Prop := ACalls PR 73 args h R
abbrev c_slices_IndexFunc_Sint_int (args : Array Value) (h : Hp) (R : Value → Hp → Prop) : Prop := ACalls PR 74 args h R
abbrev c_spec_l10True (args : Array Value) (h : Hp) (R : Value → Hp → Prop) : Prop := ACalls PR 78 args h R
abbrev c_spec_l1Bit (args : Array Value) (h : Hp) (R : Value → Hp → Prop) : Prop := ACalls PR 79 args h R
end Go.Lead
