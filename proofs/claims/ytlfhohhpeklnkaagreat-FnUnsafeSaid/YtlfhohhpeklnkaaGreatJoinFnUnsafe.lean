/- Closed facts of the program that the row of FnUnsafe asks for; no condition is added. -/
import Derived.Test.YtlfhohhpeklnkaaGreatRows
import Derived.WalkKit
import Derived.ProofKit
import Derived.OpenShut
import Derived.ShutString
import Derived.ChangeOld
import Derived.Below
import Derived.SizedLaws
namespace Go.Proofs.YtlfhohhpeklnkaaGreat.fnUnsafe
open Go.ChangeShapes Go.WideShapes Go.ChangeAt Go.RowKit
set_option linter.unusedVariables false
theorem own : ownKnob Tryz.prog.godebug = none := by kernel_rfl
theorem laidOut : laidOutB Tryz.prog = true := by kernel_rfl
theorem jIn : Tryz.prog.inPlace 14 = Rows.fnUnsafeRow.inPlace := by kernel_rfl
theorem jUn : Tryz.prog.unfollowed 14 = Rows.fnUnsafeRow.unfollowed := by kernel_rfl
theorem jRe : Tryz.prog.recurses 14 = Rows.fnUnsafeRow.recurses := by kernel_rfl
theorem jNa : Tryz.prog.varsNamed 14 = Rows.fnUnsafeRow.named := by kernel_rfl
theorem jMay : Tryz.prog.mayEnter = true := by kernel_rfl
theorem jHeard : Tryz.prog.stopsHeard = true := by kernel_rfl
theorem joined : joinedFacts Tryz.prog 14 Tryz.f14 Rows.fnUnsafeSpec Rows.fnUnsafeRow = true := by
  unfold joinedFacts
  rw [laidOut, jIn, jUn, jRe, jNa, jMay, jHeard]
  kernel_rfl
end Go.Proofs.YtlfhohhpeklnkaaGreat.fnUnsafe
