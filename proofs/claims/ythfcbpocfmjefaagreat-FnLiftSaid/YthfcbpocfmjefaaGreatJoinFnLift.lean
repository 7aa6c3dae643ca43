/- Closed facts of the program that the row of FnLift asks for; no condition is added. -/
import Derived.Test.YthfcbpocfmjefaaGreatRows
import Derived.WalkKit
import Derived.ProofKit
import Derived.OpenShut
import Derived.ShutString
import Derived.ChangeOld
import Derived.Below
import Derived.SizedLaws
namespace Go.Proofs.YthfcbpocfmjefaaGreat.fnLift
open Go.ChangeShapes Go.WideShapes Go.ChangeAt Go.RowKit
set_option linter.unusedVariables false
theorem own : ownKnob Tryz.prog.godebug = none := by kernel_rfl
theorem laidOut : laidOutB Tryz.prog = true := by kernel_rfl
theorem jIn : Tryz.prog.inPlace 8 = Rows.fnLiftRow.inPlace := by kernel_rfl
theorem jUn : Tryz.prog.unfollowed 8 = Rows.fnLiftRow.unfollowed := by kernel_rfl
theorem jRe : Tryz.prog.recurses 8 = Rows.fnLiftRow.recurses := by kernel_rfl
theorem jNa : Tryz.prog.varsNamed 8 = Rows.fnLiftRow.named := by kernel_rfl
theorem jMay : Tryz.prog.mayEnter = true := by kernel_rfl
theorem jHeard : Tryz.prog.stopsHeard = true := by kernel_rfl
theorem joined : joinedFacts Tryz.prog 8 Tryz.f8 Rows.fnLiftSpec Rows.fnLiftRow = true := by
  unfold joinedFacts
  rw [laidOut, jIn, jUn, jRe, jNa, jMay, jHeard]
  kernel_rfl
end Go.Proofs.YthfcbpocfmjefaaGreat.fnLift
