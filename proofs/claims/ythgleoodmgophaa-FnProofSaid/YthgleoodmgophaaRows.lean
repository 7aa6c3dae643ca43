/-
  No cell of these rows narrows 'for every input' (looked for: loops, veiled, ifaces, maps, wideKeys, modest, calm, conditions, laid).
  DERIVED. THE GIVEN ROWS OF THIS SEAT. 11 by the template 'for every input the law returns true; each argument reads behind the call as it read before'; 0 by the template 'total and deterministic' (their statements: YthgleoodmgophaaTotals.lean).
  GIVEN WITH THE SEED: the statements are not yours to turn. If you find one false, say at which input.
  Laid BY PROGRAM, IN A SANDBOX (cutbox-rows.mjs): the forced cells as the released guide's own fill.sh prints them over the translation 0dffc07a24a844c5… (all of the seat's roots in one cut). By AI agents, Wed Nov 11 2026. No macro, syntax, notation, axiom, sorry.
-/
import Derived.Test.YthgleoodmgophaaChecked
import GoSem.Claim
import GoSem.ClaimJoined
import GoSem.ClaimMapViews
import Derived.JoinedTies
import Derived.KernelRfl
namespace Go.Proofs.Ythgleoodmgophaa
/- THE CELL 'sum', in the pinned program and in every row, IS THE sha256 OF THE DUMP (.gsa) THAT YthgleoodmgophaaProg.lean LOADS. Nothing in Lean hashes anything: it is a label: what it is worth is what the hold of that sum in a sandbox is worth. -/
noncomputable def Try.pinned : Pinned := { name := "ythgleoodmgophaa", sum := "0dffc07a24a844c5a4f8242f26596e07bb8074d2336804748bc1a81f8c62551f", checked := Try.checked }
namespace Rows
def none {H : Type} : Left H := { results := [], args := [] }

/-- 'laws.FnExactBddFrom': WHATEVER THE INPUT: true; the input reads as it did. -/
def fnExactBddFromSpec : ChangeSpec := { name := "fnExactBddFrom", fn := fun _ => fun
  | [d1, d2] => { results := [.lit (.bool true)], args := [d1, d2] }
  | _ => none }
def fnExactBddFromRow : OpenClaim := { program := "ythgleoodmgophaa", sum := "0dffc07a24a844c5a4f8242f26596e07bb8074d2336804748bc1a81f8c62551f", func := "loop.example/leadline/laws.FnExactBddFrom", spec := "fnExactBddFrom", recurses := true, plainKeys := false, apart := false }
def FnExactBddFromSaid : Prop := fnExactBddFromRow.holds Try.pinned (OpenSpec.ofChange fnExactBddFromSpec)

/-- ITS FALSE NEIGHBOUR: 'it returns false'. Refute it at one input. -/
def fnExactBddFromWrong : ChangeSpec := { name := "fnExactBddFrom", fn := fun _ => fun
  | [d1, d2] => { results := [.lit (.bool false)], args := [d1, d2] }
  | _ => none }
def FnExactBddFromWrongFalsely : Prop := fnExactBddFromRow.holds Try.pinned (OpenSpec.ofChange fnExactBddFromWrong)

/-- 'laws.FnCore': WHATEVER THE INPUT: true; the input reads as it did. -/
def fnCoreSpec : ChangeSpec := { name := "fnCore", fn := fun _ => fun
  | [d] => { results := [.lit (.bool true)], args := [d] }
  | _ => none }
def fnCoreRow : OpenClaim := { program := "ythgleoodmgophaa", sum := "0dffc07a24a844c5a4f8242f26596e07bb8074d2336804748bc1a81f8c62551f", func := "loop.example/leadline/laws.FnCore", spec := "fnCore", unfollowed := true, recurses := true, plainKeys := false, apart := false }
def FnCoreSaid : Prop := fnCoreRow.holds Try.pinned (OpenSpec.ofChange fnCoreSpec)

/-- ITS FALSE NEIGHBOUR: 'it returns false'. Refute it at one input. -/
def fnCoreWrong : ChangeSpec := { name := "fnCore", fn := fun _ => fun
  | [d] => { results := [.lit (.bool false)], args := [d] }
  | _ => none }
def FnCoreWrongFalsely : Prop := fnCoreRow.holds Try.pinned (OpenSpec.ofChange fnCoreWrong)

/-- 'laws.FnExactSatUnits': WHATEVER THE INPUT: true; the input reads as it did. -/
def fnExactSatUnitsSpec : ChangeSpec := { name := "fnExactSatUnits", fn := fun _ => fun
  | [d1, d2] => { results := [.lit (.bool true)], args := [d1, d2] }
  | _ => none }
def fnExactSatUnitsRow : OpenClaim := { program := "ythgleoodmgophaa", sum := "0dffc07a24a844c5a4f8242f26596e07bb8074d2336804748bc1a81f8c62551f", func := "loop.example/leadline/laws.FnExactSatUnits", spec := "fnExactSatUnits", unfollowed := true, recurses := true, plainKeys := false, apart := false }
def FnExactSatUnitsSaid : Prop := fnExactSatUnitsRow.holds Try.pinned (OpenSpec.ofChange fnExactSatUnitsSpec)

/-- ITS FALSE NEIGHBOUR: 'it returns false'. Refute it at one input. -/
def fnExactSatUnitsWrong : ChangeSpec := { name := "fnExactSatUnits", fn := fun _ => fun
  | [d1, d2] => { results := [.lit (.bool false)], args := [d1, d2] }
  | _ => none }
def FnExactSatUnitsWrongFalsely : Prop := fnExactSatUnitsRow.holds Try.pinned (OpenSpec.ofChange fnExactSatUnitsWrong)

/-- 'laws.FnExactSatCore': WHATEVER THE INPUT: true; the input reads as it did. -/
def fnExactSatCoreSpec : ChangeSpec := { name := "fnExactSatCore", fn := fun _ => fun
  | [d] => { results := [.lit (.bool true)], args := [d] }
  | _ => none }
def fnExactSatCoreRow : OpenClaim := { program := "ythgleoodmgophaa", sum := "0dffc07a24a844c5a4f8242f26596e07bb8074d2336804748bc1a81f8c62551f", func := "loop.example/leadline/laws.FnExactSatCore", spec := "fnExactSatCore", unfollowed := true, recurses := true, plainKeys := false, apart := false }
def FnExactSatCoreSaid : Prop := fnExactSatCoreRow.holds Try.pinned (OpenSpec.ofChange fnExactSatCoreSpec)

/-- ITS FALSE NEIGHBOUR: 'it returns false'. Refute it at one input. -/
def fnExactSatCoreWrong : ChangeSpec := { name := "fnExactSatCore", fn := fun _ => fun
  | [d] => { results := [.lit (.bool false)], args := [d] }
  | _ => none }
def FnExactSatCoreWrongFalsely : Prop := fnExactSatCoreRow.holds Try.pinned (OpenSpec.ofChange fnExactSatCoreWrong)

/-- 'laws.FnExactProofGapAt': WHATEVER THE INPUT: true; the input reads as it did. -/
def fnExactProofGapAtSpec : ChangeSpec := { name := "fnExactProofGapAt", fn := fun _ => fun
  | [d1, d2] => { results := [.lit (.bool true)], args := [d1, d2] }
  | _ => none }
def fnExactProofGapAtRow : OpenClaim := { program := "ythgleoodmgophaa", sum := "0dffc07a24a844c5a4f8242f26596e07bb8074d2336804748bc1a81f8c62551f", func := "loop.example/leadline/laws.FnExactProofGapAt", spec := "fnExactProofGapAt", unfollowed := true, recurses := true, plainKeys := false, apart := false }
def FnExactProofGapAtSaid : Prop := fnExactProofGapAtRow.holds Try.pinned (OpenSpec.ofChange fnExactProofGapAtSpec)

/-- ITS FALSE NEIGHBOUR: 'it returns false'. Refute it at one input. -/
def fnExactProofGapAtWrong : ChangeSpec := { name := "fnExactProofGapAt", fn := fun _ => fun
  | [d1, d2] => { results := [.lit (.bool false)], args := [d1, d2] }
  | _ => none }
def FnExactProofGapAtWrongFalsely : Prop := fnExactProofGapAtRow.holds Try.pinned (OpenSpec.ofChange fnExactProofGapAtWrong)

/-- 'laws.FnExactProofCode': WHATEVER THE INPUT: true; the input reads as it did. -/
def fnExactProofCodeSpec : ChangeSpec := { name := "fnExactProofCode", fn := fun _ => fun
  | [d1, d2] => { results := [.lit (.bool true)], args := [d1, d2] }
  | _ => none }
def fnExactProofCodeRow : OpenClaim := { program := "ythgleoodmgophaa", sum := "0dffc07a24a844c5a4f8242f26596e07bb8074d2336804748bc1a81f8c62551f", func := "loop.example/leadline/laws.FnExactProofCode", spec := "fnExactProofCode", unfollowed := true, recurses := true, plainKeys := false, apart := false }
def FnExactProofCodeSaid : Prop := fnExactProofCodeRow.holds Try.pinned (OpenSpec.ofChange fnExactProofCodeSpec)

/-- ITS FALSE NEIGHBOUR: 'it returns false'. Refute it at one input. -/
def fnExactProofCodeWrong : ChangeSpec := { name := "fnExactProofCode", fn := fun _ => fun
  | [d1, d2] => { results := [.lit (.bool false)], args := [d1, d2] }
  | _ => none }
def FnExactProofCodeWrongFalsely : Prop := fnExactProofCodeRow.holds Try.pinned (OpenSpec.ofChange fnExactProofCodeWrong)

/-- 'laws.FnExactProofOf': WHATEVER THE INPUT: true; the input reads as it did. -/
def fnExactProofOfSpec : ChangeSpec := { name := "fnExactProofOf", fn := fun _ => fun
  | [d] => { results := [.lit (.bool true)], args := [d] }
  | _ => none }
def fnExactProofOfRow : OpenClaim := { program := "ythgleoodmgophaa", sum := "0dffc07a24a844c5a4f8242f26596e07bb8074d2336804748bc1a81f8c62551f", func := "loop.example/leadline/laws.FnExactProofOf", spec := "fnExactProofOf", unfollowed := true, recurses := true, plainKeys := false, apart := false }
def FnExactProofOfSaid : Prop := fnExactProofOfRow.holds Try.pinned (OpenSpec.ofChange fnExactProofOfSpec)

/-- ITS FALSE NEIGHBOUR: 'it returns false'. Refute it at one input. -/
def fnExactProofOfWrong : ChangeSpec := { name := "fnExactProofOf", fn := fun _ => fun
  | [d] => { results := [.lit (.bool false)], args := [d] }
  | _ => none }
def FnExactProofOfWrongFalsely : Prop := fnExactProofOfRow.holds Try.pinned (OpenSpec.ofChange fnExactProofOfWrong)

/-- 'laws.FnExactCnfSet': WHATEVER THE INPUT: true; the input reads as it did. -/
def fnExactCnfSetSpec : ChangeSpec := { name := "fnExactCnfSet", fn := fun _ => fun
  | [d] => { results := [.lit (.bool true)], args := [d] }
  | _ => none }
def fnExactCnfSetRow : OpenClaim := { program := "ythgleoodmgophaa", sum := "0dffc07a24a844c5a4f8242f26596e07bb8074d2336804748bc1a81f8c62551f", func := "loop.example/leadline/laws.FnExactCnfSet", spec := "fnExactCnfSet", unfollowed := true, recurses := true, plainKeys := false, apart := false }
def FnExactCnfSetSaid : Prop := fnExactCnfSetRow.holds Try.pinned (OpenSpec.ofChange fnExactCnfSetSpec)

/-- ITS FALSE NEIGHBOUR: 'it returns false'. Refute it at one input. -/
def fnExactCnfSetWrong : ChangeSpec := { name := "fnExactCnfSet", fn := fun _ => fun
  | [d] => { results := [.lit (.bool false)], args := [d] }
  | _ => none }
def FnExactCnfSetWrongFalsely : Prop := fnExactCnfSetRow.holds Try.pinned (OpenSpec.ofChange fnExactCnfSetWrong)

/-- 'laws.FnCoreProof': WHATEVER THE INPUT: true; the input reads as it did. -/
def fnCoreProofSpec : ChangeSpec := { name := "fnCoreProof", fn := fun _ => fun
  | [d] => { results := [.lit (.bool true)], args := [d] }
  | _ => none }
def fnCoreProofRow : OpenClaim := { program := "ythgleoodmgophaa", sum := "0dffc07a24a844c5a4f8242f26596e07bb8074d2336804748bc1a81f8c62551f", func := "loop.example/leadline/laws.FnCoreProof", spec := "fnCoreProof", unfollowed := true, recurses := true, plainKeys := false, apart := false }
def FnCoreProofSaid : Prop := fnCoreProofRow.holds Try.pinned (OpenSpec.ofChange fnCoreProofSpec)

/-- ITS FALSE NEIGHBOUR: 'it returns false'. Refute it at one input. -/
def fnCoreProofWrong : ChangeSpec := { name := "fnCoreProof", fn := fun _ => fun
  | [d] => { results := [.lit (.bool false)], args := [d] }
  | _ => none }
def FnCoreProofWrongFalsely : Prop := fnCoreProofRow.holds Try.pinned (OpenSpec.ofChange fnCoreProofWrong)

/-- 'laws.FnProofMore': WHATEVER THE INPUT: true; the input reads as it did. -/
def fnProofMoreSpec : ChangeSpec := { name := "fnProofMore", fn := fun _ => fun
  | [d1, d2] => { results := [.lit (.bool true)], args := [d1, d2] }
  | _ => none }
def fnProofMoreRow : OpenClaim := { program := "ythgleoodmgophaa", sum := "0dffc07a24a844c5a4f8242f26596e07bb8074d2336804748bc1a81f8c62551f", func := "loop.example/leadline/laws.FnProofMore", spec := "fnProofMore", unfollowed := true, recurses := true, plainKeys := false, apart := false }
def FnProofMoreSaid : Prop := fnProofMoreRow.holds Try.pinned (OpenSpec.ofChange fnProofMoreSpec)

/-- ITS FALSE NEIGHBOUR: 'it returns false'. Refute it at one input. -/
def fnProofMoreWrong : ChangeSpec := { name := "fnProofMore", fn := fun _ => fun
  | [d1, d2] => { results := [.lit (.bool false)], args := [d1, d2] }
  | _ => none }
def FnProofMoreWrongFalsely : Prop := fnProofMoreRow.holds Try.pinned (OpenSpec.ofChange fnProofMoreWrong)

/-- 'laws.FnProof': WHATEVER THE INPUT: true; the input reads as it did. -/
def fnProofSpec : ChangeSpec := { name := "fnProof", fn := fun _ => fun
  | [d] => { results := [.lit (.bool true)], args := [d] }
  | _ => none }
def fnProofRow : OpenClaim := { program := "ythgleoodmgophaa", sum := "0dffc07a24a844c5a4f8242f26596e07bb8074d2336804748bc1a81f8c62551f", func := "loop.example/leadline/laws.FnProof", spec := "fnProof", unfollowed := true, recurses := true, plainKeys := false, apart := false }
def FnProofSaid : Prop := fnProofRow.holds Try.pinned (OpenSpec.ofChange fnProofSpec)

/-- ITS FALSE NEIGHBOUR: 'it returns false'. Refute it at one input. -/
def fnProofWrong : ChangeSpec := { name := "fnProof", fn := fun _ => fun
  | [d] => { results := [.lit (.bool false)], args := [d] }
  | _ => none }
def FnProofWrongFalsely : Prop := fnProofRow.holds Try.pinned (OpenSpec.ofChange fnProofWrong)

/- THE SECOND FORM. 'bulk': how many values and letters a reading holds, each counted each time it is reached (what is shared counts as often as it is met; a slice's spare places count too). A statement '..UptoSaid' is the law's where the arguments, and the package variables that the reading takes, are together of bulk at most 1048576: NARROWER than '..Said'. Prove '..Said' where nothing that the law and all that it calls make is longer than what came in: it says more and counts as full. Else prove '..UptoSaid'. A law counts once. -/
mutual
def uptoBulk {H : Type} : DataW H → Nat
  | .lit (.string bytes) => bytes.length + 1
  | .lit _ => 1
  | .nil => 1
  | .ptr d => uptoBulk d + 1
  | .slice elems spare => uptoBulkAll elems + uptoBulkAll spare + 1
  | .agg parts => uptoBulkAll parts + 1
  | .iface _ d => uptoBulk d + 1
  | .map entries => uptoBulkEntries entries + 1
  | .held _ => 1
def uptoBulkAll {H : Type} : List (DataW H) → Nat
  | [] => 0
  | d :: r => uptoBulk d + uptoBulkAll r
def uptoBulkEntries {H : Type} : List (Lit × DataW H) → Nat
  | [] => 0
  | x :: r => uptoBulkEntry x + uptoBulkEntries r
def uptoBulkEntry {H : Type} : Lit × DataW H → Nat
  | (.string bytes, d) => bytes.length + uptoBulk d + 1
  | (_, d) => uptoBulk d + 1
 end
def uptoSmall : (H : Type) → List (DataW H) → Bool := fun _ ds => decide (uptoBulkAll ds ≤ 1048576)
def OpenSpec.upto (s : _root_.Go.ChangeSpec) : _root_.Go.OpenSpec := { _root_.Go.OpenSpec.ofChange s with cond := some uptoSmall }

/-- 'laws.FnExactBddFrom', WHERE WHAT IT READS IS OF BULK AT MOST 1048576: true; the input reads as it did. -/
def fnExactBddFromUptoRow : OpenClaim := { program := "ythgleoodmgophaa", sum := "0dffc07a24a844c5a4f8242f26596e07bb8074d2336804748bc1a81f8c62551f", func := "loop.example/leadline/laws.FnExactBddFrom", spec := "fnExactBddFrom", recurses := true, plainKeys := false, apart := false, narrowed := true }
def FnExactBddFromUptoSaid : Prop := fnExactBddFromUptoRow.holds Try.pinned (OpenSpec.upto fnExactBddFromSpec)

/-- 'laws.FnCore', WHERE WHAT IT READS IS OF BULK AT MOST 1048576: true; the input reads as it did. -/
def fnCoreUptoRow : OpenClaim := { program := "ythgleoodmgophaa", sum := "0dffc07a24a844c5a4f8242f26596e07bb8074d2336804748bc1a81f8c62551f", func := "loop.example/leadline/laws.FnCore", spec := "fnCore", unfollowed := true, recurses := true, plainKeys := false, apart := false, narrowed := true }
def FnCoreUptoSaid : Prop := fnCoreUptoRow.holds Try.pinned (OpenSpec.upto fnCoreSpec)

/-- 'laws.FnExactSatUnits', WHERE WHAT IT READS IS OF BULK AT MOST 1048576: true; the input reads as it did. -/
def fnExactSatUnitsUptoRow : OpenClaim := { program := "ythgleoodmgophaa", sum := "0dffc07a24a844c5a4f8242f26596e07bb8074d2336804748bc1a81f8c62551f", func := "loop.example/leadline/laws.FnExactSatUnits", spec := "fnExactSatUnits", unfollowed := true, recurses := true, plainKeys := false, apart := false, narrowed := true }
def FnExactSatUnitsUptoSaid : Prop := fnExactSatUnitsUptoRow.holds Try.pinned (OpenSpec.upto fnExactSatUnitsSpec)

/-- 'laws.FnExactSatCore', WHERE WHAT IT READS IS OF BULK AT MOST 1048576: true; the input reads as it did. -/
def fnExactSatCoreUptoRow : OpenClaim := { program := "ythgleoodmgophaa", sum := "0dffc07a24a844c5a4f8242f26596e07bb8074d2336804748bc1a81f8c62551f", func := "loop.example/leadline/laws.FnExactSatCore", spec := "fnExactSatCore", unfollowed := true, recurses := true, plainKeys := false, apart := false, narrowed := true }
def FnExactSatCoreUptoSaid : Prop := fnExactSatCoreUptoRow.holds Try.pinned (OpenSpec.upto fnExactSatCoreSpec)

/-- 'laws.FnExactProofGapAt', WHERE WHAT IT READS IS OF BULK AT MOST 1048576: true; the input reads as it did. -/
def fnExactProofGapAtUptoRow : OpenClaim := { program := "ythgleoodmgophaa", sum := "0dffc07a24a844c5a4f8242f26596e07bb8074d2336804748bc1a81f8c62551f", func := "loop.example/leadline/laws.FnExactProofGapAt", spec := "fnExactProofGapAt", unfollowed := true, recurses := true, plainKeys := false, apart := false, narrowed := true }
def FnExactProofGapAtUptoSaid : Prop := fnExactProofGapAtUptoRow.holds Try.pinned (OpenSpec.upto fnExactProofGapAtSpec)

/-- 'laws.FnExactProofCode', WHERE WHAT IT READS IS OF BULK AT MOST 1048576: true; the input reads as it did. -/
def fnExactProofCodeUptoRow : OpenClaim := { program := "ythgleoodmgophaa", sum := "0dffc07a24a844c5a4f8242f26596e07bb8074d2336804748bc1a81f8c62551f", func := "loop.example/leadline/laws.FnExactProofCode", spec := "fnExactProofCode", unfollowed := true, recurses := true, plainKeys := false, apart := false, narrowed := true }
def FnExactProofCodeUptoSaid : Prop := fnExactProofCodeUptoRow.holds Try.pinned (OpenSpec.upto fnExactProofCodeSpec)

/-- 'laws.FnExactProofOf', WHERE WHAT IT READS IS OF BULK AT MOST 1048576: true; the input reads as it did. -/
def fnExactProofOfUptoRow : OpenClaim := { program := "ythgleoodmgophaa", sum := "0dffc07a24a844c5a4f8242f26596e07bb8074d2336804748bc1a81f8c62551f", func := "loop.example/leadline/laws.FnExactProofOf", spec := "fnExactProofOf", unfollowed := true, recurses := true, plainKeys := false, apart := false, narrowed := true }
def FnExactProofOfUptoSaid : Prop := fnExactProofOfUptoRow.holds Try.pinned (OpenSpec.upto fnExactProofOfSpec)

/-- 'laws.FnExactCnfSet', WHERE WHAT IT READS IS OF BULK AT MOST 1048576: true; the input reads as it did. -/
def fnExactCnfSetUptoRow : OpenClaim := { program := "ythgleoodmgophaa", sum := "0dffc07a24a844c5a4f8242f26596e07bb8074d2336804748bc1a81f8c62551f", func := "loop.example/leadline/laws.FnExactCnfSet", spec := "fnExactCnfSet", unfollowed := true, recurses := true, plainKeys := false, apart := false, narrowed := true }
def FnExactCnfSetUptoSaid : Prop := fnExactCnfSetUptoRow.holds Try.pinned (OpenSpec.upto fnExactCnfSetSpec)

/-- 'laws.FnCoreProof', WHERE WHAT IT READS IS OF BULK AT MOST 1048576: true; the input reads as it did. -/
def fnCoreProofUptoRow : OpenClaim := { program := "ythgleoodmgophaa", sum := "0dffc07a24a844c5a4f8242f26596e07bb8074d2336804748bc1a81f8c62551f", func := "loop.example/leadline/laws.FnCoreProof", spec := "fnCoreProof", unfollowed := true, recurses := true, plainKeys := false, apart := false, narrowed := true }
def FnCoreProofUptoSaid : Prop := fnCoreProofUptoRow.holds Try.pinned (OpenSpec.upto fnCoreProofSpec)

/-- 'laws.FnProofMore', WHERE WHAT IT READS IS OF BULK AT MOST 1048576: true; the input reads as it did. -/
def fnProofMoreUptoRow : OpenClaim := { program := "ythgleoodmgophaa", sum := "0dffc07a24a844c5a4f8242f26596e07bb8074d2336804748bc1a81f8c62551f", func := "loop.example/leadline/laws.FnProofMore", spec := "fnProofMore", unfollowed := true, recurses := true, plainKeys := false, apart := false, narrowed := true }
def FnProofMoreUptoSaid : Prop := fnProofMoreUptoRow.holds Try.pinned (OpenSpec.upto fnProofMoreSpec)

/-- 'laws.FnProof', WHERE WHAT IT READS IS OF BULK AT MOST 1048576: true; the input reads as it did. -/
def fnProofUptoRow : OpenClaim := { program := "ythgleoodmgophaa", sum := "0dffc07a24a844c5a4f8242f26596e07bb8074d2336804748bc1a81f8c62551f", func := "loop.example/leadline/laws.FnProof", spec := "fnProof", unfollowed := true, recurses := true, plainKeys := false, apart := false, narrowed := true }
def FnProofUptoSaid : Prop := fnProofUptoRow.holds Try.pinned (OpenSpec.upto fnProofSpec)

end Rows
end Go.Proofs.Ythgleoodmgophaa
