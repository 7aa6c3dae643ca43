/- The walks of the functions, written by a program: the program that is walked. No statement is proved here. -/
import Derived.Test.YthcnlmahlmndhaaVm9
import Derived.Test.YthcnlmahlmndhaaProg
namespace Go.Lead
open Go Go.Proofs
noncomputable abbrev PR : Program := Try.prog
theorem mixed : PR.follows .mixedOrders = true := by kernel_rfl
abbrev i_impl_CnfOk_d1 : FuncId := 35
abbrev i_impl_clauseOk_d1 : FuncId := 64
abbrev i_impl_clausesHold_d1 : FuncId := 70
abbrev i_impl_clausesHold_d1_d1 : FuncId := 71
abbrev c_laws_FnExactCnfHolds (args : Array Value) (h : Hp) (R : Value → Hp → Prop) : Prop := ACalls PR 6 args h R
abbrev c_laws_szCnf (args : Array Value) (h : Hp) (R : Value → Hp → Prop) : Prop := ACalls PR 9 args h R
abbrev c_spec_CnfOk (args : Array Value) (h : Hp) (R : Value → Hp → Prop) : Prop := ACalls PR 10 args h R
abbrev c_laws_toCnf (args : Array Value) (h : Hp) (R : Value → Hp → Prop) : Prop := ACalls PR 11 args h R
abbrev c_impl_CnfOk (args : Array Value) (h : Hp) (R : Value → Hp → Prop) : Prop := ACalls PR 12 args h R
abbrev c_laws_eqCnf (args : Array Value) (h : Hp) (R : Value → Hp → Prop) : Prop := ACalls PR 13 args h R
abbrev c_spec_CnfHolds (args : Array Value) (h : Hp) (R : Value → Hp → Prop) : Prop := ACalls PR 21 args h R
abbrev c_impl_CnfHolds (args : Array Value) (h : Hp) (R : Value → Hp → Prop) : Prop := ACalls PR 22 args h R
abbrev c_laws_szIntSS (args : Array Value) (h : Hp) (R : Value → Hp → Prop) : Prop := ACalls PR 29 args h R
abbrev c_spec_l1In (args : Array Value) (h : Hp) (R : Value → Hp → Prop) : Prop := ACalls PR 30 args h R
abbrev c_spec_l10Clause (args : Array Value) (h : Hp) (R : Value → Hp → Prop) : Prop := ACalls PR 31 args h R
abbrev c_laws_toIntSS (args : Array Value) (h : Hp) (R : Value → Hp → Prop) : Prop := ACalls PR 32 args h R
abbrev c_impl_in (args : Array Value) (h : Hp) (R : Value → Hp → Prop) : Prop := ACalls PR 33 args h R
abbrev c_slices_ContainsFunc_SSint_Sint (args : Array Value) (h : Hp) (R : Value → Hp → Prop) : Prop := ACalls PR 34 args h R
abbrev c_impl_CnfOk_d1 (args : Array Value) (h : Hp) (R : Value → Hp → Prop) : Prop := ACalls PR 35 args h R
abbrev c_impl_clauseOk (args : Array Value) (h : Hp) (R : Value → Hp → Prop) : Prop := ACalls PR 36 args h R
abbrev c_laws_eqIntSS (args : Array Value) (h : Hp) (R : Value → Hp → Prop) : Prop := ACalls PR 37 args h R
abbrev c_spec_l10All (args : Array Value) (h : Hp) (R : Value → Hp → Prop) : Prop := ACalls PR 47 args h R
abbrev c_spec_l10Every (args : Array Value) (h : Hp) (R : Value → Hp → Prop) : Prop := ACalls PR 48 args h R
abbrev c_impl_clausesHold (args : Array Value) (h : Hp) (R : Value → Hp → Prop) : Prop := ACalls PR 49 args h R
abbrev c_laws_szIntS (args : Array Value) (h : Hp) (R : Value → Hp → Prop) : Prop := ACalls PR 59 args h R
abbrev c_spec_l10Literal (args : Array Value) (h : Hp) (R : Value → Hp → Prop) : Prop := ACalls PR 60 args h R
abbrev c_laws_toIntS (args : Array Value) (h : Hp) (R : Value → Hp → Prop) : Prop := ACalls PR 61 args h R
abbrev c_slices_IndexFunc_SSint_Sint (args : Array Value) (h : Hp) (R : Value → Hp → Prop) : Prop := ACalls PR 62 args h R
abbrev c_slices_ContainsFunc_Sint_int (args : Array Value) (h : Hp) (R : Value → Hp → Prop) : Prop := ACalls PR 63 args h R
abbrev c_impl_clauseOk_d1 (args : Array Value) (h : Hp) (R : Value → Hp → Prop) : Prop := ACalls PR 64 args h R
abbrev c_laws_eqIntS (args : Array Value) (h : Hp) (R : Value → Hp → Prop) : Prop := ACalls PR 65 args h R
abbrev c_spec_l10Any (args : Array Value) (h : Hp) (R : Value → Hp → Prop) : Prop := ACalls PR 69 args h R
abbrev c_impl_clausesHold_d1 (args : Array Value) (h : Hp) (R : Value → Hp → Prop) : Prop := ACalls PR 70 args h R
abbrev c_impl_clausesHold_d1_d1 (args : Array Value) (h : Hp) (R : Value → Hp → Prop) : Prop := ACalls PR 71 args h R
abbrev c_impl_literal (args : Array Value) (h : Hp) (R : Value → Hp → Prop) : Prop := ACalls PR 72 args h R
abbrev c_slices_IndexFunc_Sint_int (args : Array Value) (h : Hp) (R : Value → Hp → Prop) : Prop := ACalls PR 74 args h R
abbrev c_spec_l10True (args : Array Value) (h : Hp) (R : Value → Hp → Prop) : Prop := ACalls PR 78 args h R
abbrev c_spec_l1Bit (args : Array Value) (h : Hp) (R : Value → Hp → Prop) : Prop := ACalls PR 79 args h R
end Go.Lead
