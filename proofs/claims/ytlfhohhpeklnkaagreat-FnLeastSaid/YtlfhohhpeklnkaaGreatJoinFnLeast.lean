/- Closed facts of the program that the row of FnLeast asks for; no condition is added. -/
import Derived.Test.YtlfhohhpeklnkaaGreatRows
import Derived.WalkKit
import Derived.ProofKit
import Derived.OpenShut
import Derived.ShutString
import Derived.ChangeOld
import Derived.Below
import Derived.SizedLaws
namespace Go.Proofs.YtlfhohhpeklnkaaGreat.fnLeast
open Go.ChangeShapes Go.WideShapes Go.ChangeAt Go.RowKit
set_option linter.unusedVariables false
theorem own : ownKnob Tryz.prog.godebug = none := by kernel_rfl
theorem laidOut : laidOutB Tryz.prog = true := by kernel_rfl
theorem jIn : Tryz.prog.inPlace 13 = Rows.fnLeastRow.inPlace := by kernel_rfl
theorem jUn : Tryz.prog.unfollowed 13 = Rows.fnLeastRow.unfollowed := by kernel_rfl
theorem jRe : Tryz.prog.recurses 13 = Rows.fnLeastRow.recurses := by kernel_rfl
theorem jNa : Tryz.prog.varsNamed 13 = Rows.fnLeastRow.named := by kernel_rfl
theorem jMay : Tryz.prog.mayEnter = true := by kernel_rfl
theorem jHeard : Tryz.prog.stopsHeard = true := by kernel_rfl
theorem joined : joinedFacts Tryz.prog 13 Tryz.f13 Rows.fnLeastSpec Rows.fnLeastRow = true := by
  unfold joinedFacts
  rw [laidOut, jIn, jUn, jRe, jNa, jMay, jHeard]
  kernel_rfl
end Go.Proofs.YtlfhohhpeklnkaaGreat.fnLeast
