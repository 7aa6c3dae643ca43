/- The walks of the functions, written by a program: the program that is walked. No statement is proved here. -/
import Derived.Test.YthgleoodmgophaaVm9
import Derived.Test.YthgleoodmgophaaProg
namespace Go.Lead
open Go Go.Proofs
noncomputable abbrev PR : Program := Try.prog
theorem mixed : PR.follows .mixedOrders = true := by kernel_rfl
abbrev i_impl_CnfOk_d1 : FuncId := 96
abbrev i_impl_clauseOk_d1 : FuncId := 101
abbrev i_impl_proofOk_d1 : FuncId := 103
abbrev i_impl_clausesHold_d1 : FuncId := 108
abbrev i_impl_clausesHold_d1_d1 : FuncId := 109
abbrev c_laws_FnProof (args : Array Value) (h : Hp) (R : Value → Hp → Prop) : Prop := ACalls PR 13 args h R
abbrev c_spec_SatLeast (args : Array Value) (h : Hp) (R : Value → Hp → Prop) : Prop := ACalls PR 26 args h R
abbrev c_spec_CnfOk (args : Array Value) (h : Hp) (R : Value → Hp → Prop) : Prop := ACalls PR 27 args h R
abbrev c_impl_ProofGapAt (args : Array Value) (h : Hp) (R : Value → Hp → Prop) : Prop := ACalls PR 39 args h R
abbrev c_spec_ProofCode (args : Array Value) (h : Hp) (R : Value → Hp → Prop) : Prop := ACalls PR 41 args h R
abbrev c_impl_ProofCode (args : Array Value) (h : Hp) (R : Value → Hp → Prop) : Prop := ACalls PR 42 args h R
abbrev c_spec_ProofOf (args : Array Value) (h : Hp) (R : Value → Hp → Prop) : Prop := ACalls PR 43 args h R
abbrev c_impl_ProofOf (args : Array Value) (h : Hp) (R : Value → Hp → Prop) : Prop := ACalls PR 44 args h R
abbrev c_spec_GoodCnf (args : Array Value) (h : Hp) (R : Value → Hp → Prop) : Prop := ACalls PR 49 args h R
abbrev c_spec_DrawProofCode (args : Array Value) (h : Hp) (R : Value → Hp → Prop) : Prop := ACalls PR 51 args h R
abbrev c_spec_l1In (args : Array Value) (h : Hp) (R : Value → Hp → Prop) : Prop := ACalls PR 53 args h R
abbrev c_spec_l17Open (args : Array Value) (h : Hp) (R : Value → Hp → Prop) : Prop := ACalls PR 61 args h R
abbrev c_spec_l17Rd_cnf (args : Array Value) (h : Hp) (R : Value → Hp → Prop) : Prop := ACalls PR 62 args h R
abbrev c_impl_CnfOk (args : Array Value) (h : Hp) (R : Value → Hp → Prop) : Prop := ACalls PR 63 args h R
abbrev c_impl_least (args : Array Value) (h : Hp) (R : Value → Hp → Prop) : Prop := ACalls PR 64 args h R
abbrev c_impl_cloneInts (args : Array Value) (h : Hp) (R : Value → Hp → Prop) : Prop := ACalls PR 68 args h R
abbrev c_spec_l10Every (args : Array Value) (h : Hp) (R : Value → Hp → Prop) : Prop := ACalls PR 69 args h R
abbrev c_spec_l10Least (args : Array Value) (h : Hp) (R : Value → Hp → Prop) : Prop := ACalls PR 70 args h R
abbrev c_spec_l10Clause (args : Array Value) (h : Hp) (R : Value → Hp → Prop) : Prop := ACalls PR 71 args h R
abbrev c_spec_l10Units (args : Array Value) (h : Hp) (R : Value → Hp → Prop) : Prop := ACalls PR 72 args h R
abbrev c_spec_l10Has (args : Array Value) (h : Hp) (R : Value → Hp → Prop) : Prop := ACalls PR 73 args h R
abbrev c_impl_clauseOk (args : Array Value) (h : Hp) (R : Value → Hp → Prop) : Prop := ACalls PR 74 args h R
abbrev c_impl_units (args : Array Value) (h : Hp) (R : Value → Hp → Prop) : Prop := ACalls PR 75 args h R
abbrev c_spec_l11Shape (args : Array Value) (h : Hp) (R : Value → Hp → Prop) : Prop := ACalls PR 77 args h R
abbrev c_spec_l11Gap (args : Array Value) (h : Hp) (R : Value → Hp → Prop) : Prop := ACalls PR 78 args h R
abbrev c_impl_proofOk (args : Array Value) (h : Hp) (R : Value → Hp → Prop) : Prop := ACalls PR 79 args h R
abbrev c_impl_gap (args : Array Value) (h : Hp) (R : Value → Hp → Prop) : Prop := ACalls PR 80 args h R
abbrev c_spec_l11Tree (args : Array Value) (h : Hp) (R : Value → Hp → Prop) : Prop := ACalls PR 81 args h R
abbrev c_impl_prove (args : Array Value) (h : Hp) (R : Value → Hp → Prop) : Prop := ACalls PR 82 args h R
abbrev c_impl_cloneClauses (args : Array Value) (h : Hp) (R : Value → Hp → Prop) : Prop := ACalls PR 83 args h R
abbrev c_spec_l10All (args : Array Value) (h : Hp) (R : Value → Hp → Prop) : Prop := ACalls PR 84 args h R
abbrev c_impl_clausesHold (args : Array Value) (h : Hp) (R : Value → Hp → Prop) : Prop := ACalls PR 87 args h R
abbrev c_spec_l17Rd_proof (args : Array Value) (h : Hp) (R : Value → Hp → Prop) : Prop := ACalls PR 88 args h R
abbrev c_impl_in (args : Array Value) (h : Hp) (R : Value → Hp → Prop) : Prop := ACalls PR 90 args h R
abbrev c_spec_l17Rd_pick (args : Array Value) (h : Hp) (R : Value → Hp → Prop) : Prop := ACalls PR 94 args h R
abbrev c_slices_ContainsFunc_SSint_Sint (args : Array Value) (h : Hp) (R : Value → Hp → Prop) : Prop := ACalls PR 95 args h R
abbrev c_impl_CnfOk_d1 (args : Array Value) (h : Hp) (R : Value → Hp → Prop) : Prop := ACalls PR 96 args h R
abbrev c_slices_IndexFunc_Sint_int (args : Array Value) (h : Hp) (R : Value → Hp → Prop) : Prop := ACalls PR 97 args h R
abbrev c_spec_l10Literal (args : Array Value) (h : Hp) (R : Value → Hp → Prop) : Prop := ACalls PR 98 args h R
abbrev c_spec_l10Left (args : Array Value) (h : Hp) (R : Value → Hp → Prop) : Prop := ACalls PR 99 args h R
abbrev c_slices_ContainsFunc_Sint_int (args : Array Value) (h : Hp) (R : Value → Hp → Prop) : Prop := ACalls PR 100 args h R
abbrev c_impl_clauseOk_d1 (args : Array Value) (h : Hp) (R : Value → Hp → Prop) : Prop := ACalls PR 101 args h R
abbrev c_spec_l11Follows (args : Array Value) (h : Hp) (R : Value → Hp → Prop) : Prop := ACalls PR 102 args h R
abbrev c_impl_proofOk_d1 (args : Array Value) (h : Hp) (R : Value → Hp → Prop) : Prop := ACalls PR 103 args h R
abbrev c_slices_Clone_SSint_Sint (args : Array Value) (h : Hp) (R : Value → Hp → Prop) : Prop := ACalls PR 104 args h R
abbrev c_impl_opposites (args : Array Value) (h : Hp) (R : Value → Hp → Prop) : Prop := ACalls PR 105 args h R
abbrev c_spec_l10Any (args : Array Value) (h : Hp) (R : Value → Hp → Prop) : Prop := ACalls PR 106 args h R
abbrev c_impl_clausesHold_d1 (args : Array Value) (h : Hp) (R : Value → Hp → Prop) : Prop := ACalls PR 108 args h R
abbrev c_impl_clausesHold_d1_d1 (args : Array Value) (h : Hp) (R : Value → Hp → Prop) : Prop := ACalls PR 109 args h R
abbrev c_impl_literal (args : Array Value) (h : Hp) (R : Value → Hp → Prop) : Prop := ACalls PR 110 args h R
abbrev c_slices_IndexFunc_SSint_Sint (args : Array Value) (h : Hp) (R : Value → Hp → Prop) : Prop := ACalls PR 112 args h R
abbrev c_spec_l10True (args : Array Value) (h : Hp) (R : Value → Hp → Prop) : Prop := ACalls PR 113 args h R
abbrev c_spec_l1Bit (args : Array Value) (h : Hp) (R : Value → Hp → Prop) : Prop := ACalls PR 115 args h R
end Go.Lead
