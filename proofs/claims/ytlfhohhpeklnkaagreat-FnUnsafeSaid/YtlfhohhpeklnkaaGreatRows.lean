/-
  No cell of these rows narrows 'for every input' (looked for: loops, veiled, ifaces, maps, wideKeys, modest, calm, conditions, laid).
  DERIVED. THE GIVEN ROWS OF THIS SEAT. 12 by the template 'for every input the law returns true; each argument reads behind the call as it read before'; 0 by the template 'total and deterministic' (their statements: YtlfhohhpeklnkaaGreatTotals.lean).
  GIVEN WITH THE SEED: the statements are not yours to turn. If you find one false, say at which input.
  Laid BY PROGRAM, IN A SANDBOX (cutbox-rows.mjs): the forced cells as the released guide's own fill.sh prints them over the translation 2eb942b36a787cdf… (all of the seat's roots in one cut). By AI agents, Wed Nov 11 2026. No macro, syntax, notation, axiom, sorry.
-/
import Derived.Test.YtlfhohhpeklnkaaGreatChecked
import GoSem.Claim
import GoSem.ClaimJoined
import GoSem.ClaimMapViews
import Derived.JoinedTies
import Derived.KernelRfl
namespace Go.Proofs.YtlfhohhpeklnkaaGreat
/- THE CELL 'sum', in the pinned program and in every row, IS THE sha256 OF THE DUMP (.gsa) THAT YtlfhohhpeklnkaaGreatProg.lean LOADS. Nothing in Lean hashes anything: it is a label: what it is worth is what the hold of that sum in a sandbox is worth. -/
noncomputable def Tryz.pinned : Pinned := { name := "ytlfhohhpeklnkaagreat", sum := "2eb942b36a787cdfe9f1cc29c38ced0c2258585a3e273df85041d9e1ccea08a3", checked := Tryz.checked }
namespace Rows
def none {H : Type} : Left H := { results := [], args := [] }

/-- 'laws.FnBegin': WHATEVER THE INPUT: true; the input reads as it did. -/
def fnBeginSpec : ChangeSpec := { name := "fnBegin", fn := fun _ => fun
  | [d] => { results := [.lit (.bool true)], args := [d] }
  | _ => none }
def fnBeginRow : OpenClaim := { program := "ytlfhohhpeklnkaagreat", sum := "2eb942b36a787cdfe9f1cc29c38ced0c2258585a3e273df85041d9e1ccea08a3", func := "loop.example/leadline/laws.FnBegin", spec := "fnBegin", unfollowed := true, recurses := true, plainKeys := false, apart := false }
def FnBeginSaid : Prop := fnBeginRow.holds Tryz.pinned (OpenSpec.ofChange fnBeginSpec)

/-- ITS FALSE NEIGHBOUR: 'it returns false'. Refute it at one input. -/
def fnBeginWrong : ChangeSpec := { name := "fnBegin", fn := fun _ => fun
  | [d] => { results := [.lit (.bool false)], args := [d] }
  | _ => none }
def FnBeginWrongFalsely : Prop := fnBeginRow.holds Tryz.pinned (OpenSpec.ofChange fnBeginWrong)

/-- 'laws.FnRun': WHATEVER THE INPUT: true; the input reads as it did. -/
def fnRunSpec : ChangeSpec := { name := "fnRun", fn := fun _ => fun
  | [d] => { results := [.lit (.bool true)], args := [d] }
  | _ => none }
def fnRunRow : OpenClaim := { program := "ytlfhohhpeklnkaagreat", sum := "2eb942b36a787cdfe9f1cc29c38ced0c2258585a3e273df85041d9e1ccea08a3", func := "loop.example/leadline/laws.FnRun", spec := "fnRun", unfollowed := true, recurses := true, plainKeys := false, apart := false }
def FnRunSaid : Prop := fnRunRow.holds Tryz.pinned (OpenSpec.ofChange fnRunSpec)

/-- ITS FALSE NEIGHBOUR: 'it returns false'. Refute it at one input. -/
def fnRunWrong : ChangeSpec := { name := "fnRun", fn := fun _ => fun
  | [d] => { results := [.lit (.bool false)], args := [d] }
  | _ => none }
def FnRunWrongFalsely : Prop := fnRunRow.holds Tryz.pinned (OpenSpec.ofChange fnRunWrong)

/-- 'laws.FnMore': WHATEVER THE INPUT: true; the input reads as it did. -/
def fnMoreSpec : ChangeSpec := { name := "fnMore", fn := fun _ => fun
  | [d1, d2] => { results := [.lit (.bool true)], args := [d1, d2] }
  | _ => none }
def fnMoreRow : OpenClaim := { program := "ytlfhohhpeklnkaagreat", sum := "2eb942b36a787cdfe9f1cc29c38ced0c2258585a3e273df85041d9e1ccea08a3", func := "loop.example/leadline/laws.FnMore", spec := "fnMore", unfollowed := true, recurses := true, plainKeys := false, apart := false }
def FnMoreSaid : Prop := fnMoreRow.holds Tryz.pinned (OpenSpec.ofChange fnMoreSpec)

/-- ITS FALSE NEIGHBOUR: 'it returns false'. Refute it at one input. -/
def fnMoreWrong : ChangeSpec := { name := "fnMore", fn := fun _ => fun
  | [d1, d2] => { results := [.lit (.bool false)], args := [d1, d2] }
  | _ => none }
def FnMoreWrongFalsely : Prop := fnMoreRow.holds Tryz.pinned (OpenSpec.ofChange fnMoreWrong)

/-- 'laws.FnSets': WHATEVER THE INPUT: true; the input reads as it did. -/
def fnSetsSpec : ChangeSpec := { name := "fnSets", fn := fun _ => fun
  | [d1, d2] => { results := [.lit (.bool true)], args := [d1, d2] }
  | _ => none }
def fnSetsRow : OpenClaim := { program := "ytlfhohhpeklnkaagreat", sum := "2eb942b36a787cdfe9f1cc29c38ced0c2258585a3e273df85041d9e1ccea08a3", func := "loop.example/leadline/laws.FnSets", spec := "fnSets", unfollowed := true, recurses := true, plainKeys := false, apart := false }
def FnSetsSaid : Prop := fnSetsRow.holds Tryz.pinned (OpenSpec.ofChange fnSetsSpec)

/-- ITS FALSE NEIGHBOUR: 'it returns false'. Refute it at one input. -/
def fnSetsWrong : ChangeSpec := { name := "fnSets", fn := fun _ => fun
  | [d1, d2] => { results := [.lit (.bool false)], args := [d1, d2] }
  | _ => none }
def FnSetsWrongFalsely : Prop := fnSetsRow.holds Tryz.pinned (OpenSpec.ofChange fnSetsWrong)

/-- 'laws.FnInduct': WHATEVER THE INPUT: true; the input reads as it did. -/
def fnInductSpec : ChangeSpec := { name := "fnInduct", fn := fun _ => fun
  | [d] => { results := [.lit (.bool true)], args := [d] }
  | _ => none }
def fnInductRow : OpenClaim := { program := "ytlfhohhpeklnkaagreat", sum := "2eb942b36a787cdfe9f1cc29c38ced0c2258585a3e273df85041d9e1ccea08a3", func := "loop.example/leadline/laws.FnInduct", spec := "fnInduct", unfollowed := true, recurses := true, plainKeys := false, apart := false }
def FnInductSaid : Prop := fnInductRow.holds Tryz.pinned (OpenSpec.ofChange fnInductSpec)

/-- ITS FALSE NEIGHBOUR: 'it returns false'. Refute it at one input. -/
def fnInductWrong : ChangeSpec := { name := "fnInduct", fn := fun _ => fun
  | [d] => { results := [.lit (.bool false)], args := [d] }
  | _ => none }
def FnInductWrongFalsely : Prop := fnInductRow.holds Tryz.pinned (OpenSpec.ofChange fnInductWrong)

/-- 'laws.FnDepth': WHATEVER THE INPUT: true; the input reads as it did. -/
def fnDepthSpec : ChangeSpec := { name := "fnDepth", fn := fun _ => fun
  | [d] => { results := [.lit (.bool true)], args := [d] }
  | _ => none }
def fnDepthRow : OpenClaim := { program := "ytlfhohhpeklnkaagreat", sum := "2eb942b36a787cdfe9f1cc29c38ced0c2258585a3e273df85041d9e1ccea08a3", func := "loop.example/leadline/laws.FnDepth", spec := "fnDepth", unfollowed := true, recurses := true, plainKeys := false, apart := false }
def FnDepthSaid : Prop := fnDepthRow.holds Tryz.pinned (OpenSpec.ofChange fnDepthSpec)

/-- ITS FALSE NEIGHBOUR: 'it returns false'. Refute it at one input. -/
def fnDepthWrong : ChangeSpec := { name := "fnDepth", fn := fun _ => fun
  | [d] => { results := [.lit (.bool false)], args := [d] }
  | _ => none }
def FnDepthWrongFalsely : Prop := fnDepthRow.holds Tryz.pinned (OpenSpec.ofChange fnDepthWrong)

/-- 'laws.FnNoBads': WHATEVER THE INPUT: true; the input reads as it did. -/
def fnNoBadsSpec : ChangeSpec := { name := "fnNoBads", fn := fun _ => fun
  | [d] => { results := [.lit (.bool true)], args := [d] }
  | _ => none }
def fnNoBadsRow : OpenClaim := { program := "ytlfhohhpeklnkaagreat", sum := "2eb942b36a787cdfe9f1cc29c38ced0c2258585a3e273df85041d9e1ccea08a3", func := "loop.example/leadline/laws.FnNoBads", spec := "fnNoBads", unfollowed := true, recurses := true, plainKeys := false, apart := false }
def FnNoBadsSaid : Prop := fnNoBadsRow.holds Tryz.pinned (OpenSpec.ofChange fnNoBadsSpec)

/-- ITS FALSE NEIGHBOUR: 'it returns false'. Refute it at one input. -/
def fnNoBadsWrong : ChangeSpec := { name := "fnNoBads", fn := fun _ => fun
  | [d] => { results := [.lit (.bool false)], args := [d] }
  | _ => none }
def FnNoBadsWrongFalsely : Prop := fnNoBadsRow.holds Tryz.pinned (OpenSpec.ofChange fnNoBadsWrong)

/-- 'laws.FnLayers': WHATEVER THE INPUT: true; the input reads as it did. -/
def fnLayersSpec : ChangeSpec := { name := "fnLayers", fn := fun _ => fun
  | [d] => { results := [.lit (.bool true)], args := [d] }
  | _ => none }
def fnLayersRow : OpenClaim := { program := "ytlfhohhpeklnkaagreat", sum := "2eb942b36a787cdfe9f1cc29c38ced0c2258585a3e273df85041d9e1ccea08a3", func := "loop.example/leadline/laws.FnLayers", spec := "fnLayers", unfollowed := true, recurses := true, plainKeys := false, apart := false }
def FnLayersSaid : Prop := fnLayersRow.holds Tryz.pinned (OpenSpec.ofChange fnLayersSpec)

/-- ITS FALSE NEIGHBOUR: 'it returns false'. Refute it at one input. -/
def fnLayersWrong : ChangeSpec := { name := "fnLayers", fn := fun _ => fun
  | [d] => { results := [.lit (.bool false)], args := [d] }
  | _ => none }
def FnLayersWrongFalsely : Prop := fnLayersRow.holds Tryz.pinned (OpenSpec.ofChange fnLayersWrong)

/-- 'laws.FnNames': WHATEVER THE INPUT: true; the input reads as it did. -/
def fnNamesSpec : ChangeSpec := { name := "fnNames", fn := fun _ => fun
  | [d] => { results := [.lit (.bool true)], args := [d] }
  | _ => none }
def fnNamesRow : OpenClaim := { program := "ytlfhohhpeklnkaagreat", sum := "2eb942b36a787cdfe9f1cc29c38ced0c2258585a3e273df85041d9e1ccea08a3", func := "loop.example/leadline/laws.FnNames", spec := "fnNames", unfollowed := true, recurses := true, plainKeys := false, apart := false }
def FnNamesSaid : Prop := fnNamesRow.holds Tryz.pinned (OpenSpec.ofChange fnNamesSpec)

/-- ITS FALSE NEIGHBOUR: 'it returns false'. Refute it at one input. -/
def fnNamesWrong : ChangeSpec := { name := "fnNames", fn := fun _ => fun
  | [d] => { results := [.lit (.bool false)], args := [d] }
  | _ => none }
def FnNamesWrongFalsely : Prop := fnNamesRow.holds Tryz.pinned (OpenSpec.ofChange fnNamesWrong)

/-- 'laws.FnBudget': WHATEVER THE INPUT: true; the input reads as it did. -/
def fnBudgetSpec : ChangeSpec := { name := "fnBudget", fn := fun _ => fun
  | [d] => { results := [.lit (.bool true)], args := [d] }
  | _ => none }
def fnBudgetRow : OpenClaim := { program := "ytlfhohhpeklnkaagreat", sum := "2eb942b36a787cdfe9f1cc29c38ced0c2258585a3e273df85041d9e1ccea08a3", func := "loop.example/leadline/laws.FnBudget", spec := "fnBudget", unfollowed := true, recurses := true, plainKeys := false, apart := false }
def FnBudgetSaid : Prop := fnBudgetRow.holds Tryz.pinned (OpenSpec.ofChange fnBudgetSpec)

/-- ITS FALSE NEIGHBOUR: 'it returns false'. Refute it at one input. -/
def fnBudgetWrong : ChangeSpec := { name := "fnBudget", fn := fun _ => fun
  | [d] => { results := [.lit (.bool false)], args := [d] }
  | _ => none }
def FnBudgetWrongFalsely : Prop := fnBudgetRow.holds Tryz.pinned (OpenSpec.ofChange fnBudgetWrong)

/-- 'laws.FnLeast': WHATEVER THE INPUT: true; the input reads as it did. -/
def fnLeastSpec : ChangeSpec := { name := "fnLeast", fn := fun _ => fun
  | [d] => { results := [.lit (.bool true)], args := [d] }
  | _ => none }
def fnLeastRow : OpenClaim := { program := "ytlfhohhpeklnkaagreat", sum := "2eb942b36a787cdfe9f1cc29c38ced0c2258585a3e273df85041d9e1ccea08a3", func := "loop.example/leadline/laws.FnLeast", spec := "fnLeast", unfollowed := true, recurses := true, plainKeys := false, apart := false }
def FnLeastSaid : Prop := fnLeastRow.holds Tryz.pinned (OpenSpec.ofChange fnLeastSpec)

/-- ITS FALSE NEIGHBOUR: 'it returns false'. Refute it at one input. -/
def fnLeastWrong : ChangeSpec := { name := "fnLeast", fn := fun _ => fun
  | [d] => { results := [.lit (.bool false)], args := [d] }
  | _ => none }
def FnLeastWrongFalsely : Prop := fnLeastRow.holds Tryz.pinned (OpenSpec.ofChange fnLeastWrong)

/-- 'laws.FnUnsafe': WHATEVER THE INPUT: true; the input reads as it did. -/
def fnUnsafeSpec : ChangeSpec := { name := "fnUnsafe", fn := fun _ => fun
  | [d] => { results := [.lit (.bool true)], args := [d] }
  | _ => none }
def fnUnsafeRow : OpenClaim := { program := "ytlfhohhpeklnkaagreat", sum := "2eb942b36a787cdfe9f1cc29c38ced0c2258585a3e273df85041d9e1ccea08a3", func := "loop.example/leadline/laws.FnUnsafe", spec := "fnUnsafe", unfollowed := true, recurses := true, plainKeys := false, apart := false }
def FnUnsafeSaid : Prop := fnUnsafeRow.holds Tryz.pinned (OpenSpec.ofChange fnUnsafeSpec)

/-- ITS FALSE NEIGHBOUR: 'it returns false'. Refute it at one input. -/
def fnUnsafeWrong : ChangeSpec := { name := "fnUnsafe", fn := fun _ => fun
  | [d] => { results := [.lit (.bool false)], args := [d] }
  | _ => none }
def FnUnsafeWrongFalsely : Prop := fnUnsafeRow.holds Tryz.pinned (OpenSpec.ofChange fnUnsafeWrong)

/- THE SECOND FORM. 'bulk': how many values and letters a reading holds, each counted each time it is reached (what is shared counts as often as it is met; a slice's spare places count too). A statement '..UptoSaid' is the law's where the arguments, and the package variables that the reading takes, are together of bulk at most 1048576: NARROWER than '..Said'. Prove '..Said' where nothing that the law and all that it calls make is longer than what came in: it says more and counts as full. Else prove '..UptoSaid'. A law counts once. -/
mutual
def uptoBulk {H : Type} : DataW H → Nat
  | .lit (.string bytes) => bytes.length + 1
  | .lit _ => 1
  | .nil => 1
  | .ptr d => uptoBulk d + 1
  | .slice elems spare => uptoBulkAll elems + uptoBulkAll spare + 1
  | .agg parts => uptoBulkAll parts + 1
  | .iface _ d => uptoBulk d + 1
  | .map entries => uptoBulkEntries entries + 1
  | .held _ => 1
def uptoBulkAll {H : Type} : List (DataW H) → Nat
  | [] => 0
  | d :: r => uptoBulk d + uptoBulkAll r
def uptoBulkEntries {H : Type} : List (Lit × DataW H) → Nat
  | [] => 0
  | x :: r => uptoBulkEntry x + uptoBulkEntries r
def uptoBulkEntry {H : Type} : Lit × DataW H → Nat
  | (.string bytes, d) => bytes.length + uptoBulk d + 1
  | (_, d) => uptoBulk d + 1
 end
def uptoSmall : (H : Type) → List (DataW H) → Bool := fun _ ds => decide (uptoBulkAll ds ≤ 1048576)
def OpenSpec.upto (s : _root_.Go.ChangeSpec) : _root_.Go.OpenSpec := { _root_.Go.OpenSpec.ofChange s with cond := some uptoSmall }

/-- 'laws.FnBegin', WHERE WHAT IT READS IS OF BULK AT MOST 1048576: true; the input reads as it did. -/
def fnBeginUptoRow : OpenClaim := { program := "ytlfhohhpeklnkaagreat", sum := "2eb942b36a787cdfe9f1cc29c38ced0c2258585a3e273df85041d9e1ccea08a3", func := "loop.example/leadline/laws.FnBegin", spec := "fnBegin", unfollowed := true, recurses := true, plainKeys := false, apart := false, narrowed := true }
def FnBeginUptoSaid : Prop := fnBeginUptoRow.holds Tryz.pinned (OpenSpec.upto fnBeginSpec)

/-- 'laws.FnRun', WHERE WHAT IT READS IS OF BULK AT MOST 1048576: true; the input reads as it did. -/
def fnRunUptoRow : OpenClaim := { program := "ytlfhohhpeklnkaagreat", sum := "2eb942b36a787cdfe9f1cc29c38ced0c2258585a3e273df85041d9e1ccea08a3", func := "loop.example/leadline/laws.FnRun", spec := "fnRun", unfollowed := true, recurses := true, plainKeys := false, apart := false, narrowed := true }
def FnRunUptoSaid : Prop := fnRunUptoRow.holds Tryz.pinned (OpenSpec.upto fnRunSpec)

/-- 'laws.FnMore', WHERE WHAT IT READS IS OF BULK AT MOST 1048576: true; the input reads as it did. -/
def fnMoreUptoRow : OpenClaim := { program := "ytlfhohhpeklnkaagreat", sum := "2eb942b36a787cdfe9f1cc29c38ced0c2258585a3e273df85041d9e1ccea08a3", func := "loop.example/leadline/laws.FnMore", spec := "fnMore", unfollowed := true, recurses := true, plainKeys := false, apart := false, narrowed := true }
def FnMoreUptoSaid : Prop := fnMoreUptoRow.holds Tryz.pinned (OpenSpec.upto fnMoreSpec)

/-- 'laws.FnSets', WHERE WHAT IT READS IS OF BULK AT MOST 1048576: true; the input reads as it did. -/
def fnSetsUptoRow : OpenClaim := { program := "ytlfhohhpeklnkaagreat", sum := "2eb942b36a787cdfe9f1cc29c38ced0c2258585a3e273df85041d9e1ccea08a3", func := "loop.example/leadline/laws.FnSets", spec := "fnSets", unfollowed := true, recurses := true, plainKeys := false, apart := false, narrowed := true }
def FnSetsUptoSaid : Prop := fnSetsUptoRow.holds Tryz.pinned (OpenSpec.upto fnSetsSpec)

/-- 'laws.FnInduct', WHERE WHAT IT READS IS OF BULK AT MOST 1048576: true; the input reads as it did. -/
def fnInductUptoRow : OpenClaim := { program := "ytlfhohhpeklnkaagreat", sum := "2eb942b36a787cdfe9f1cc29c38ced0c2258585a3e273df85041d9e1ccea08a3", func := "loop.example/leadline/laws.FnInduct", spec := "fnInduct", unfollowed := true, recurses := true, plainKeys := false, apart := false, narrowed := true }
def FnInductUptoSaid : Prop := fnInductUptoRow.holds Tryz.pinned (OpenSpec.upto fnInductSpec)

/-- 'laws.FnDepth', WHERE WHAT IT READS IS OF BULK AT MOST 1048576: true; the input reads as it did. -/
def fnDepthUptoRow : OpenClaim := { program := "ytlfhohhpeklnkaagreat", sum := "2eb942b36a787cdfe9f1cc29c38ced0c2258585a3e273df85041d9e1ccea08a3", func := "loop.example/leadline/laws.FnDepth", spec := "fnDepth", unfollowed := true, recurses := true, plainKeys := false, apart := false, narrowed := true }
def FnDepthUptoSaid : Prop := fnDepthUptoRow.holds Tryz.pinned (OpenSpec.upto fnDepthSpec)

/-- 'laws.FnNoBads', WHERE WHAT IT READS IS OF BULK AT MOST 1048576: true; the input reads as it did. -/
def fnNoBadsUptoRow : OpenClaim := { program := "ytlfhohhpeklnkaagreat", sum := "2eb942b36a787cdfe9f1cc29c38ced0c2258585a3e273df85041d9e1ccea08a3", func := "loop.example/leadline/laws.FnNoBads", spec := "fnNoBads", unfollowed := true, recurses := true, plainKeys := false, apart := false, narrowed := true }
def FnNoBadsUptoSaid : Prop := fnNoBadsUptoRow.holds Tryz.pinned (OpenSpec.upto fnNoBadsSpec)

/-- 'laws.FnLayers', WHERE WHAT IT READS IS OF BULK AT MOST 1048576: true; the input reads as it did. -/
def fnLayersUptoRow : OpenClaim := { program := "ytlfhohhpeklnkaagreat", sum := "2eb942b36a787cdfe9f1cc29c38ced0c2258585a3e273df85041d9e1ccea08a3", func := "loop.example/leadline/laws.FnLayers", spec := "fnLayers", unfollowed := true, recurses := true, plainKeys := false, apart := false, narrowed := true }
def FnLayersUptoSaid : Prop := fnLayersUptoRow.holds Tryz.pinned (OpenSpec.upto fnLayersSpec)

/-- 'laws.FnNames', WHERE WHAT IT READS IS OF BULK AT MOST 1048576: true; the input reads as it did. -/
def fnNamesUptoRow : OpenClaim := { program := "ytlfhohhpeklnkaagreat", sum := "2eb942b36a787cdfe9f1cc29c38ced0c2258585a3e273df85041d9e1ccea08a3", func := "loop.example/leadline/laws.FnNames", spec := "fnNames", unfollowed := true, recurses := true, plainKeys := false, apart := false, narrowed := true }
def FnNamesUptoSaid : Prop := fnNamesUptoRow.holds Tryz.pinned (OpenSpec.upto fnNamesSpec)

/-- 'laws.FnBudget', WHERE WHAT IT READS IS OF BULK AT MOST 1048576: true; the input reads as it did. -/
def fnBudgetUptoRow : OpenClaim := { program := "ytlfhohhpeklnkaagreat", sum := "2eb942b36a787cdfe9f1cc29c38ced0c2258585a3e273df85041d9e1ccea08a3", func := "loop.example/leadline/laws.FnBudget", spec := "fnBudget", unfollowed := true, recurses := true, plainKeys := false, apart := false, narrowed := true }
def FnBudgetUptoSaid : Prop := fnBudgetUptoRow.holds Tryz.pinned (OpenSpec.upto fnBudgetSpec)

/-- 'laws.FnLeast', WHERE WHAT IT READS IS OF BULK AT MOST 1048576: true; the input reads as it did. -/
def fnLeastUptoRow : OpenClaim := { program := "ytlfhohhpeklnkaagreat", sum := "2eb942b36a787cdfe9f1cc29c38ced0c2258585a3e273df85041d9e1ccea08a3", func := "loop.example/leadline/laws.FnLeast", spec := "fnLeast", unfollowed := true, recurses := true, plainKeys := false, apart := false, narrowed := true }
def FnLeastUptoSaid : Prop := fnLeastUptoRow.holds Tryz.pinned (OpenSpec.upto fnLeastSpec)

/-- 'laws.FnUnsafe', WHERE WHAT IT READS IS OF BULK AT MOST 1048576: true; the input reads as it did. -/
def fnUnsafeUptoRow : OpenClaim := { program := "ytlfhohhpeklnkaagreat", sum := "2eb942b36a787cdfe9f1cc29c38ced0c2258585a3e273df85041d9e1ccea08a3", func := "loop.example/leadline/laws.FnUnsafe", spec := "fnUnsafe", unfollowed := true, recurses := true, plainKeys := false, apart := false, narrowed := true }
def FnUnsafeUptoSaid : Prop := fnUnsafeUptoRow.holds Tryz.pinned (OpenSpec.upto fnUnsafeSpec)

end Rows
end Go.Proofs.YtlfhohhpeklnkaaGreat
