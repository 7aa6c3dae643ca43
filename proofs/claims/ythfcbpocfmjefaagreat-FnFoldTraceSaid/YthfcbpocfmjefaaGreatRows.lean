/-
  No cell of these rows narrows 'for every input' (looked for: loops, veiled, ifaces, maps, wideKeys, modest, calm, conditions, laid).
  DERIVED. THE GIVEN ROWS OF THIS SEAT. 6 by the template 'for every input the law returns true; each argument reads behind the call as it read before'; 0 by the template 'total and deterministic' (their statements: YthfcbpocfmjefaaGreatTotals.lean).
  GIVEN WITH THE SEED: the statements are not yours to turn. If you find one false, say at which input.
  Laid BY PROGRAM, IN A SANDBOX (cutbox-rows.mjs): the forced cells as the released guide's own fill.sh prints them over the translation 85a9fac8b92a75db… (all of the seat's roots in one cut). By AI agents, Wed Nov 11 2026. No macro, syntax, notation, axiom, sorry.
-/
import Derived.Test.YthfcbpocfmjefaaGreatChecked
import GoSem.Claim
import GoSem.ClaimJoined
import GoSem.ClaimMapViews
import Derived.JoinedTies
import Derived.KernelRfl
namespace Go.Proofs.YthfcbpocfmjefaaGreat
/- THE CELL 'sum', in the pinned program and in every row, IS THE sha256 OF THE DUMP (.gsa) THAT YthfcbpocfmjefaaGreatProg.lean LOADS. Nothing in Lean hashes anything: it is a label: what it is worth is what the hold of that sum in a sandbox is worth. -/
noncomputable def Tryz.pinned : Pinned := { name := "ythfcbpocfmjefaagreat", sum := "85a9fac8b92a75db07b7ecfa17d2ffbd57394f96bb7deae981ebac5d6029a2f1", checked := Tryz.checked }
namespace Rows
def none {H : Type} : Left H := { results := [], args := [] }

/-- 'laws.FnBits': WHATEVER THE INPUT: true; the input reads as it did. -/
def fnBitsSpec : ChangeSpec := { name := "fnBits", fn := fun _ => fun
  | [d1, d2] => { results := [.lit (.bool true)], args := [d1, d2] }
  | _ => none }
def fnBitsRow : OpenClaim := { program := "ythfcbpocfmjefaagreat", sum := "85a9fac8b92a75db07b7ecfa17d2ffbd57394f96bb7deae981ebac5d6029a2f1", func := "loop.example/leadline/laws.FnBits", spec := "fnBits", unfollowed := true, recurses := true, plainKeys := false, apart := false }
def FnBitsSaid : Prop := fnBitsRow.holds Tryz.pinned (OpenSpec.ofChange fnBitsSpec)

/-- ITS FALSE NEIGHBOUR: 'it returns false'. Refute it at one input. -/
def fnBitsWrong : ChangeSpec := { name := "fnBits", fn := fun _ => fun
  | [d1, d2] => { results := [.lit (.bool false)], args := [d1, d2] }
  | _ => none }
def FnBitsWrongFalsely : Prop := fnBitsRow.holds Tryz.pinned (OpenSpec.ofChange fnBitsWrong)

/-- 'laws.FnExactNodeBits': WHATEVER THE INPUT: true; the input reads as it did. -/
def fnExactNodeBitsSpec : ChangeSpec := { name := "fnExactNodeBits", fn := fun _ => fun
  | [d1, d2] => { results := [.lit (.bool true)], args := [d1, d2] }
  | _ => none }
def fnExactNodeBitsRow : OpenClaim := { program := "ythfcbpocfmjefaagreat", sum := "85a9fac8b92a75db07b7ecfa17d2ffbd57394f96bb7deae981ebac5d6029a2f1", func := "loop.example/leadline/laws.FnExactNodeBits", spec := "fnExactNodeBits", unfollowed := true, recurses := true, plainKeys := false, apart := false }
def FnExactNodeBitsSaid : Prop := fnExactNodeBitsRow.holds Tryz.pinned (OpenSpec.ofChange fnExactNodeBitsSpec)

/-- ITS FALSE NEIGHBOUR: 'it returns false'. Refute it at one input. -/
def fnExactNodeBitsWrong : ChangeSpec := { name := "fnExactNodeBits", fn := fun _ => fun
  | [d1, d2] => { results := [.lit (.bool false)], args := [d1, d2] }
  | _ => none }
def FnExactNodeBitsWrongFalsely : Prop := fnExactNodeBitsRow.holds Tryz.pinned (OpenSpec.ofChange fnExactNodeBitsWrong)

/-- 'laws.FnExactTraceLift': WHATEVER THE INPUT: true; the input reads as it did. -/
def fnExactTraceLiftSpec : ChangeSpec := { name := "fnExactTraceLift", fn := fun _ => fun
  | [d1, d2] => { results := [.lit (.bool true)], args := [d1, d2] }
  | _ => none }
def fnExactTraceLiftRow : OpenClaim := { program := "ythfcbpocfmjefaagreat", sum := "85a9fac8b92a75db07b7ecfa17d2ffbd57394f96bb7deae981ebac5d6029a2f1", func := "loop.example/leadline/laws.FnExactTraceLift", spec := "fnExactTraceLift", unfollowed := true, recurses := true, plainKeys := false, apart := false }
def FnExactTraceLiftSaid : Prop := fnExactTraceLiftRow.holds Tryz.pinned (OpenSpec.ofChange fnExactTraceLiftSpec)

/-- ITS FALSE NEIGHBOUR: 'it returns false'. Refute it at one input. -/
def fnExactTraceLiftWrong : ChangeSpec := { name := "fnExactTraceLift", fn := fun _ => fun
  | [d1, d2] => { results := [.lit (.bool false)], args := [d1, d2] }
  | _ => none }
def FnExactTraceLiftWrongFalsely : Prop := fnExactTraceLiftRow.holds Tryz.pinned (OpenSpec.ofChange fnExactTraceLiftWrong)

/-- 'laws.FnBystander': WHATEVER THE INPUT: true; the input reads as it did. -/
def fnBystanderSpec : ChangeSpec := { name := "fnBystander", fn := fun _ => fun
  | [d1, d2] => { results := [.lit (.bool true)], args := [d1, d2] }
  | _ => none }
def fnBystanderRow : OpenClaim := { program := "ythfcbpocfmjefaagreat", sum := "85a9fac8b92a75db07b7ecfa17d2ffbd57394f96bb7deae981ebac5d6029a2f1", func := "loop.example/leadline/laws.FnBystander", spec := "fnBystander", unfollowed := true, recurses := true, plainKeys := false, apart := false }
def FnBystanderSaid : Prop := fnBystanderRow.holds Tryz.pinned (OpenSpec.ofChange fnBystanderSpec)

/-- ITS FALSE NEIGHBOUR: 'it returns false'. Refute it at one input. -/
def fnBystanderWrong : ChangeSpec := { name := "fnBystander", fn := fun _ => fun
  | [d1, d2] => { results := [.lit (.bool false)], args := [d1, d2] }
  | _ => none }
def FnBystanderWrongFalsely : Prop := fnBystanderRow.holds Tryz.pinned (OpenSpec.ofChange fnBystanderWrong)

/-- 'laws.FnFoldTrace': WHATEVER THE INPUT: true; the input reads as it did. -/
def fnFoldTraceSpec : ChangeSpec := { name := "fnFoldTrace", fn := fun _ => fun
  | [d] => { results := [.lit (.bool true)], args := [d] }
  | _ => none }
def fnFoldTraceRow : OpenClaim := { program := "ythfcbpocfmjefaagreat", sum := "85a9fac8b92a75db07b7ecfa17d2ffbd57394f96bb7deae981ebac5d6029a2f1", func := "loop.example/leadline/laws.FnFoldTrace", spec := "fnFoldTrace", unfollowed := true, recurses := true, plainKeys := false, apart := false }
def FnFoldTraceSaid : Prop := fnFoldTraceRow.holds Tryz.pinned (OpenSpec.ofChange fnFoldTraceSpec)

/-- ITS FALSE NEIGHBOUR: 'it returns false'. Refute it at one input. -/
def fnFoldTraceWrong : ChangeSpec := { name := "fnFoldTrace", fn := fun _ => fun
  | [d] => { results := [.lit (.bool false)], args := [d] }
  | _ => none }
def FnFoldTraceWrongFalsely : Prop := fnFoldTraceRow.holds Tryz.pinned (OpenSpec.ofChange fnFoldTraceWrong)

/-- 'laws.FnLift': WHATEVER THE INPUT: true; the input reads as it did. -/
def fnLiftSpec : ChangeSpec := { name := "fnLift", fn := fun _ => fun
  | [d] => { results := [.lit (.bool true)], args := [d] }
  | _ => none }
def fnLiftRow : OpenClaim := { program := "ythfcbpocfmjefaagreat", sum := "85a9fac8b92a75db07b7ecfa17d2ffbd57394f96bb7deae981ebac5d6029a2f1", func := "loop.example/leadline/laws.FnLift", spec := "fnLift", unfollowed := true, recurses := true, plainKeys := false, apart := false }
def FnLiftSaid : Prop := fnLiftRow.holds Tryz.pinned (OpenSpec.ofChange fnLiftSpec)

/-- ITS FALSE NEIGHBOUR: 'it returns false'. Refute it at one input. -/
def fnLiftWrong : ChangeSpec := { name := "fnLift", fn := fun _ => fun
  | [d] => { results := [.lit (.bool false)], args := [d] }
  | _ => none }
def FnLiftWrongFalsely : Prop := fnLiftRow.holds Tryz.pinned (OpenSpec.ofChange fnLiftWrong)

/- THE SECOND FORM. 'bulk': how many values and letters a reading holds, each counted each time it is reached (what is shared counts as often as it is met; a slice's spare places count too). A statement '..UptoSaid' is the law's where the arguments, and the package variables that the reading takes, are together of bulk at most 1048576: NARROWER than '..Said'. Prove '..Said' where nothing that the law and all that it calls make is longer than what came in: it says more and counts as full. Else prove '..UptoSaid'. A law counts once. -/
mutual
def uptoBulk {H : Type} : DataW H → Nat
  | .lit (.string bytes) => bytes.length + 1
  | .lit _ => 1
  | .nil => 1
  | .ptr d => uptoBulk d + 1
  | .slice elems spare => uptoBulkAll elems + uptoBulkAll spare + 1
  | .agg parts => uptoBulkAll parts + 1
  | .iface _ d => uptoBulk d + 1
  | .map entries => uptoBulkEntries entries + 1
  | .held _ => 1
def uptoBulkAll {H : Type} : List (DataW H) → Nat
  | [] => 0
  | d :: r => uptoBulk d + uptoBulkAll r
def uptoBulkEntries {H : Type} : List (Lit × DataW H) → Nat
  | [] => 0
  | x :: r => uptoBulkEntry x + uptoBulkEntries r
def uptoBulkEntry {H : Type} : Lit × DataW H → Nat
  | (.string bytes, d) => bytes.length + uptoBulk d + 1
  | (_, d) => uptoBulk d + 1
 end
def uptoSmall : (H : Type) → List (DataW H) → Bool := fun _ ds => decide (uptoBulkAll ds ≤ 1048576)
def OpenSpec.upto (s : _root_.Go.ChangeSpec) : _root_.Go.OpenSpec := { _root_.Go.OpenSpec.ofChange s with cond := some uptoSmall }

/-- 'laws.FnBits', WHERE WHAT IT READS IS OF BULK AT MOST 1048576: true; the input reads as it did. -/
def fnBitsUptoRow : OpenClaim := { program := "ythfcbpocfmjefaagreat", sum := "85a9fac8b92a75db07b7ecfa17d2ffbd57394f96bb7deae981ebac5d6029a2f1", func := "loop.example/leadline/laws.FnBits", spec := "fnBits", unfollowed := true, recurses := true, plainKeys := false, apart := false, narrowed := true }
def FnBitsUptoSaid : Prop := fnBitsUptoRow.holds Tryz.pinned (OpenSpec.upto fnBitsSpec)

/-- 'laws.FnExactNodeBits', WHERE WHAT IT READS IS OF BULK AT MOST 1048576: true; the input reads as it did. -/
def fnExactNodeBitsUptoRow : OpenClaim := { program := "ythfcbpocfmjefaagreat", sum := "85a9fac8b92a75db07b7ecfa17d2ffbd57394f96bb7deae981ebac5d6029a2f1", func := "loop.example/leadline/laws.FnExactNodeBits", spec := "fnExactNodeBits", unfollowed := true, recurses := true, plainKeys := false, apart := false, narrowed := true }
def FnExactNodeBitsUptoSaid : Prop := fnExactNodeBitsUptoRow.holds Tryz.pinned (OpenSpec.upto fnExactNodeBitsSpec)

/-- 'laws.FnExactTraceLift', WHERE WHAT IT READS IS OF BULK AT MOST 1048576: true; the input reads as it did. -/
def fnExactTraceLiftUptoRow : OpenClaim := { program := "ythfcbpocfmjefaagreat", sum := "85a9fac8b92a75db07b7ecfa17d2ffbd57394f96bb7deae981ebac5d6029a2f1", func := "loop.example/leadline/laws.FnExactTraceLift", spec := "fnExactTraceLift", unfollowed := true, recurses := true, plainKeys := false, apart := false, narrowed := true }
def FnExactTraceLiftUptoSaid : Prop := fnExactTraceLiftUptoRow.holds Tryz.pinned (OpenSpec.upto fnExactTraceLiftSpec)

/-- 'laws.FnBystander', WHERE WHAT IT READS IS OF BULK AT MOST 1048576: true; the input reads as it did. -/
def fnBystanderUptoRow : OpenClaim := { program := "ythfcbpocfmjefaagreat", sum := "85a9fac8b92a75db07b7ecfa17d2ffbd57394f96bb7deae981ebac5d6029a2f1", func := "loop.example/leadline/laws.FnBystander", spec := "fnBystander", unfollowed := true, recurses := true, plainKeys := false, apart := false, narrowed := true }
def FnBystanderUptoSaid : Prop := fnBystanderUptoRow.holds Tryz.pinned (OpenSpec.upto fnBystanderSpec)

/-- 'laws.FnFoldTrace', WHERE WHAT IT READS IS OF BULK AT MOST 1048576: true; the input reads as it did. -/
def fnFoldTraceUptoRow : OpenClaim := { program := "ythfcbpocfmjefaagreat", sum := "85a9fac8b92a75db07b7ecfa17d2ffbd57394f96bb7deae981ebac5d6029a2f1", func := "loop.example/leadline/laws.FnFoldTrace", spec := "fnFoldTrace", unfollowed := true, recurses := true, plainKeys := false, apart := false, narrowed := true }
def FnFoldTraceUptoSaid : Prop := fnFoldTraceUptoRow.holds Tryz.pinned (OpenSpec.upto fnFoldTraceSpec)

/-- 'laws.FnLift', WHERE WHAT IT READS IS OF BULK AT MOST 1048576: true; the input reads as it did. -/
def fnLiftUptoRow : OpenClaim := { program := "ythfcbpocfmjefaagreat", sum := "85a9fac8b92a75db07b7ecfa17d2ffbd57394f96bb7deae981ebac5d6029a2f1", func := "loop.example/leadline/laws.FnLift", spec := "fnLift", unfollowed := true, recurses := true, plainKeys := false, apart := false, narrowed := true }
def FnLiftUptoSaid : Prop := fnLiftUptoRow.holds Tryz.pinned (OpenSpec.upto fnLiftSpec)

end Rows
end Go.Proofs.YthfcbpocfmjefaaGreat
