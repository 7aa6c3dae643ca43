/- Closed facts of the program that the row of FnFoldTrace asks for; no condition is added. -/
import Derived.Test.YthfcbpocfmjefaaGreatRows
import Derived.WalkKit
import Derived.ProofKit
import Derived.OpenShut
import Derived.ShutString
import Derived.ChangeOld
import Derived.Below
import Derived.SizedLaws
namespace Go.Proofs.YthfcbpocfmjefaaGreat.fnFoldTrace
open Go.ChangeShapes Go.WideShapes Go.ChangeAt Go.RowKit
set_option linter.unusedVariables false
theorem own : ownKnob Tryz.prog.godebug = none := by kernel_rfl
theorem laidOut : laidOutB Tryz.prog = true := by kernel_rfl
theorem jIn : Tryz.prog.inPlace 7 = Rows.fnFoldTraceRow.inPlace := by kernel_rfl
theorem jUn : Tryz.prog.unfollowed 7 = Rows.fnFoldTraceRow.unfollowed := by kernel_rfl
theorem jRe : Tryz.prog.recurses 7 = Rows.fnFoldTraceRow.recurses := by kernel_rfl
theorem jNa : Tryz.prog.varsNamed 7 = Rows.fnFoldTraceRow.named := by kernel_rfl
theorem jMay : Tryz.prog.mayEnter = true := by kernel_rfl
theorem jHeard : Tryz.prog.stopsHeard = true := by kernel_rfl
theorem joined : joinedFacts Tryz.prog 7 Tryz.f7 Rows.fnFoldTraceSpec Rows.fnFoldTraceRow = true := by
  unfold joinedFacts
  rw [laidOut, jIn, jUn, jRe, jNa, jMay, jHeard]
  kernel_rfl
end Go.Proofs.YthfcbpocfmjefaaGreat.fnFoldTrace
