/- Closed facts of the program that the row of FnLayers asks for; no condition is added. -/
import Derived.Test.YtlfhohhpeklnkaaGreatRows
import Derived.WalkKit
import Derived.ProofKit
import Derived.OpenShut
import Derived.ShutString
import Derived.ChangeOld
import Derived.Below
import Derived.SizedLaws
namespace Go.Proofs.YtlfhohhpeklnkaaGreat.fnLayers
open Go.ChangeShapes Go.WideShapes Go.ChangeAt Go.RowKit
set_option linter.unusedVariables false
theorem own : ownKnob Tryz.prog.godebug = none := by kernel_rfl
theorem laidOut : laidOutB Tryz.prog = true := by kernel_rfl
theorem jIn : Tryz.prog.inPlace 10 = Rows.fnLayersRow.inPlace := by kernel_rfl
theorem jUn : Tryz.prog.unfollowed 10 = Rows.fnLayersRow.unfollowed := by kernel_rfl
theorem jRe : Tryz.prog.recurses 10 = Rows.fnLayersRow.recurses := by kernel_rfl
theorem jNa : Tryz.prog.varsNamed 10 = Rows.fnLayersRow.named := by kernel_rfl
theorem jMay : Tryz.prog.mayEnter = true := by kernel_rfl
theorem jHeard : Tryz.prog.stopsHeard = true := by kernel_rfl
theorem joined : joinedFacts Tryz.prog 10 Tryz.f10 Rows.fnLayersSpec Rows.fnLayersRow = true := by
  unfold joinedFacts
  rw [laidOut, jIn, jUn, jRe, jNa, jMay, jHeard]
  kernel_rfl
end Go.Proofs.YtlfhohhpeklnkaaGreat.fnLayers
