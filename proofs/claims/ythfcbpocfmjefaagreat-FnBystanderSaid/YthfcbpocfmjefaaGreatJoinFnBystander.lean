/- Closed facts of the program that the row of FnBystander asks for; no condition is added. -/
import Derived.Test.YthfcbpocfmjefaaGreatRows
import Derived.WalkKit
import Derived.ProofKit
import Derived.OpenShut
import Derived.ShutString
import Derived.ChangeOld
import Derived.Below
import Derived.SizedLaws
namespace Go.Proofs.YthfcbpocfmjefaaGreat.fnBystander
open Go.ChangeShapes Go.WideShapes Go.ChangeAt Go.RowKit
set_option linter.unusedVariables false
theorem own : ownKnob Tryz.prog.godebug = none := by kernel_rfl
theorem laidOut : laidOutB Tryz.prog = true := by kernel_rfl
theorem jIn : Tryz.prog.inPlace 6 = Rows.fnBystanderRow.inPlace := by kernel_rfl
theorem jUn : Tryz.prog.unfollowed 6 = Rows.fnBystanderRow.unfollowed := by kernel_rfl
theorem jRe : Tryz.prog.recurses 6 = Rows.fnBystanderRow.recurses := by kernel_rfl
theorem jNa : Tryz.prog.varsNamed 6 = Rows.fnBystanderRow.named := by kernel_rfl
theorem jMay : Tryz.prog.mayEnter = true := by kernel_rfl
theorem jHeard : Tryz.prog.stopsHeard = true := by kernel_rfl
theorem joined : joinedFacts Tryz.prog 6 Tryz.f6 Rows.fnBystanderSpec Rows.fnBystanderRow = true := by
  unfold joinedFacts
  rw [laidOut, jIn, jUn, jRe, jNa, jMay, jHeard]
  kernel_rfl
end Go.Proofs.YthfcbpocfmjefaaGreat.fnBystander
