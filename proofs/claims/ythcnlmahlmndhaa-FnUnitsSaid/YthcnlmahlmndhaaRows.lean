/-
  No cell of these rows narrows 'for every input' (looked for: loops, veiled, ifaces, maps, wideKeys, modest, calm, conditions, laid).
  DERIVED. THE GIVEN ROWS OF THIS SEAT. 6 by the template 'for every input the law returns true; each argument reads behind the call as it read before'; 0 by the template 'total and deterministic' (their statements: YthcnlmahlmndhaaTotals.lean).
  GIVEN WITH THE SEED: the statements are not yours to turn. If you find one false, say at which input.
  Laid BY PROGRAM, IN A SANDBOX (cutbox-rows.mjs): the forced cells as the released guide's own fill.sh prints them over the translation ae15337f288fca60… (all of the seat's roots in one cut). By AI agents, Wed Nov 11 2026. No macro, syntax, notation, axiom, sorry.
-/
import Derived.Test.YthcnlmahlmndhaaChecked
import GoSem.Claim
import GoSem.ClaimJoined
import GoSem.ClaimMapViews
import Derived.JoinedTies
import Derived.KernelRfl
namespace Go.Proofs.Ythcnlmahlmndhaa
/- THE CELL 'sum', in the pinned program and in every row, IS THE sha256 OF THE DUMP (.gsa) THAT YthcnlmahlmndhaaProg.lean LOADS. Nothing in Lean hashes anything: it is a label: what it is worth is what the hold of that sum in a sandbox is worth. -/
noncomputable def Try.pinned : Pinned := { name := "ythcnlmahlmndhaa", sum := "ae15337f288fca6052cc57558355320e2e583d2e5f9e3b43a65ed58dbeb46052", checked := Try.checked }
namespace Rows
def none {H : Type} : Left H := { results := [], args := [] }

/-- 'laws.FnExactCnfOk': WHATEVER THE INPUT: true; the input reads as it did. -/
def fnExactCnfOkSpec : ChangeSpec := { name := "fnExactCnfOk", fn := fun _ => fun
  | [d] => { results := [.lit (.bool true)], args := [d] }
  | _ => none }
def fnExactCnfOkRow : OpenClaim := { program := "ythcnlmahlmndhaa", sum := "ae15337f288fca6052cc57558355320e2e583d2e5f9e3b43a65ed58dbeb46052", func := "loop.example/leadline/laws.FnExactCnfOk", spec := "fnExactCnfOk", unfollowed := true, recurses := true, plainKeys := false, apart := false }
def FnExactCnfOkSaid : Prop := fnExactCnfOkRow.holds Try.pinned (OpenSpec.ofChange fnExactCnfOkSpec)

/-- ITS FALSE NEIGHBOUR: 'it returns false'. Refute it at one input. -/
def fnExactCnfOkWrong : ChangeSpec := { name := "fnExactCnfOk", fn := fun _ => fun
  | [d] => { results := [.lit (.bool false)], args := [d] }
  | _ => none }
def FnExactCnfOkWrongFalsely : Prop := fnExactCnfOkRow.holds Try.pinned (OpenSpec.ofChange fnExactCnfOkWrong)

/-- 'laws.FnExactBddVar': WHATEVER THE INPUT: true; the input reads as it did. -/
def fnExactBddVarSpec : ChangeSpec := { name := "fnExactBddVar", fn := fun _ => fun
  | [d1, d2] => { results := [.lit (.bool true)], args := [d1, d2] }
  | _ => none }
def fnExactBddVarRow : OpenClaim := { program := "ythcnlmahlmndhaa", sum := "ae15337f288fca6052cc57558355320e2e583d2e5f9e3b43a65ed58dbeb46052", func := "loop.example/leadline/laws.FnExactBddVar", spec := "fnExactBddVar", unfollowed := true, recurses := true, plainKeys := false, apart := false }
def FnExactBddVarSaid : Prop := fnExactBddVarRow.holds Try.pinned (OpenSpec.ofChange fnExactBddVarSpec)

/-- ITS FALSE NEIGHBOUR: 'it returns false'. Refute it at one input. -/
def fnExactBddVarWrong : ChangeSpec := { name := "fnExactBddVar", fn := fun _ => fun
  | [d1, d2] => { results := [.lit (.bool false)], args := [d1, d2] }
  | _ => none }
def FnExactBddVarWrongFalsely : Prop := fnExactBddVarRow.holds Try.pinned (OpenSpec.ofChange fnExactBddVarWrong)

/-- 'laws.FnExactBddConst': WHATEVER THE INPUT: true; the input reads as it did. -/
def fnExactBddConstSpec : ChangeSpec := { name := "fnExactBddConst", fn := fun _ => fun
  | [d1, d2] => { results := [.lit (.bool true)], args := [d1, d2] }
  | _ => none }
def fnExactBddConstRow : OpenClaim := { program := "ythcnlmahlmndhaa", sum := "ae15337f288fca6052cc57558355320e2e583d2e5f9e3b43a65ed58dbeb46052", func := "loop.example/leadline/laws.FnExactBddConst", spec := "fnExactBddConst", unfollowed := true, recurses := true, plainKeys := false, apart := false }
def FnExactBddConstSaid : Prop := fnExactBddConstRow.holds Try.pinned (OpenSpec.ofChange fnExactBddConstSpec)

/-- ITS FALSE NEIGHBOUR: 'it returns false'. Refute it at one input. -/
def fnExactBddConstWrong : ChangeSpec := { name := "fnExactBddConst", fn := fun _ => fun
  | [d1, d2] => { results := [.lit (.bool false)], args := [d1, d2] }
  | _ => none }
def FnExactBddConstWrongFalsely : Prop := fnExactBddConstRow.holds Try.pinned (OpenSpec.ofChange fnExactBddConstWrong)

/-- 'laws.FnExactCnfHolds': WHATEVER THE INPUT: true; the input reads as it did. -/
def fnExactCnfHoldsSpec : ChangeSpec := { name := "fnExactCnfHolds", fn := fun _ => fun
  | [d1, d2] => { results := [.lit (.bool true)], args := [d1, d2] }
  | _ => none }
def fnExactCnfHoldsRow : OpenClaim := { program := "ythcnlmahlmndhaa", sum := "ae15337f288fca6052cc57558355320e2e583d2e5f9e3b43a65ed58dbeb46052", func := "loop.example/leadline/laws.FnExactCnfHolds", spec := "fnExactCnfHolds", unfollowed := true, recurses := true, plainKeys := false, apart := false }
def FnExactCnfHoldsSaid : Prop := fnExactCnfHoldsRow.holds Try.pinned (OpenSpec.ofChange fnExactCnfHoldsSpec)

/-- ITS FALSE NEIGHBOUR: 'it returns false'. Refute it at one input. -/
def fnExactCnfHoldsWrong : ChangeSpec := { name := "fnExactCnfHolds", fn := fun _ => fun
  | [d1, d2] => { results := [.lit (.bool false)], args := [d1, d2] }
  | _ => none }
def FnExactCnfHoldsWrongFalsely : Prop := fnExactCnfHoldsRow.holds Try.pinned (OpenSpec.ofChange fnExactCnfHoldsWrong)

/-- 'laws.FnExactSatLeast': WHATEVER THE INPUT: true; the input reads as it did. -/
def fnExactSatLeastSpec : ChangeSpec := { name := "fnExactSatLeast", fn := fun _ => fun
  | [d] => { results := [.lit (.bool true)], args := [d] }
  | _ => none }
def fnExactSatLeastRow : OpenClaim := { program := "ythcnlmahlmndhaa", sum := "ae15337f288fca6052cc57558355320e2e583d2e5f9e3b43a65ed58dbeb46052", func := "loop.example/leadline/laws.FnExactSatLeast", spec := "fnExactSatLeast", unfollowed := true, recurses := true, plainKeys := false, apart := false }
def FnExactSatLeastSaid : Prop := fnExactSatLeastRow.holds Try.pinned (OpenSpec.ofChange fnExactSatLeastSpec)

/-- ITS FALSE NEIGHBOUR: 'it returns false'. Refute it at one input. -/
def fnExactSatLeastWrong : ChangeSpec := { name := "fnExactSatLeast", fn := fun _ => fun
  | [d] => { results := [.lit (.bool false)], args := [d] }
  | _ => none }
def FnExactSatLeastWrongFalsely : Prop := fnExactSatLeastRow.holds Try.pinned (OpenSpec.ofChange fnExactSatLeastWrong)

/-- 'laws.FnUnits': WHATEVER THE INPUT: true; the input reads as it did. -/
def fnUnitsSpec : ChangeSpec := { name := "fnUnits", fn := fun _ => fun
  | [d] => { results := [.lit (.bool true)], args := [d] }
  | _ => none }
def fnUnitsRow : OpenClaim := { program := "ythcnlmahlmndhaa", sum := "ae15337f288fca6052cc57558355320e2e583d2e5f9e3b43a65ed58dbeb46052", func := "loop.example/leadline/laws.FnUnits", spec := "fnUnits", unfollowed := true, recurses := true, plainKeys := false, apart := false }
def FnUnitsSaid : Prop := fnUnitsRow.holds Try.pinned (OpenSpec.ofChange fnUnitsSpec)

/-- ITS FALSE NEIGHBOUR: 'it returns false'. Refute it at one input. -/
def fnUnitsWrong : ChangeSpec := { name := "fnUnits", fn := fun _ => fun
  | [d] => { results := [.lit (.bool false)], args := [d] }
  | _ => none }
def FnUnitsWrongFalsely : Prop := fnUnitsRow.holds Try.pinned (OpenSpec.ofChange fnUnitsWrong)

/- THE SECOND FORM. 'bulk': how many values and letters a reading holds, each counted each time it is reached (what is shared counts as often as it is met; a slice's spare places count too). A statement '..UptoSaid' is the law's where the arguments, and the package variables that the reading takes, are together of bulk at most 1048576: NARROWER than '..Said'. Prove '..Said' where nothing that the law and all that it calls make is longer than what came in: it says more and counts as full. Else prove '..UptoSaid'. A law counts once. -/
mutual
def uptoBulk {H : Type} : DataW H → Nat
  | .lit (.string bytes) => bytes.length + 1
  | .lit _ => 1
  | .nil => 1
  | .ptr d => uptoBulk d + 1
  | .slice elems spare => uptoBulkAll elems + uptoBulkAll spare + 1
  | .agg parts => uptoBulkAll parts + 1
  | .iface _ d => uptoBulk d + 1
  | .map entries => uptoBulkEntries entries + 1
  | .held _ => 1
def uptoBulkAll {H : Type} : List (DataW H) → Nat
  | [] => 0
  | d :: r => uptoBulk d + uptoBulkAll r
def uptoBulkEntries {H : Type} : List (Lit × DataW H) → Nat
  | [] => 0
  | x :: r => uptoBulkEntry x + uptoBulkEntries r
def uptoBulkEntry {H : Type} : Lit × DataW H → Nat
  | (.string bytes, d) => bytes.length + uptoBulk d + 1
  | (_, d) => uptoBulk d + 1
 end
def uptoSmall : (H : Type) → List (DataW H) → Bool := fun _ ds => decide (uptoBulkAll ds ≤ 1048576)
def OpenSpec.upto (s : _root_.Go.ChangeSpec) : _root_.Go.OpenSpec := { _root_.Go.OpenSpec.ofChange s with cond := some uptoSmall }

/-- 'laws.FnExactCnfOk', WHERE WHAT IT READS IS OF BULK AT MOST 1048576: true; the input reads as it did. -/
def fnExactCnfOkUptoRow : OpenClaim := { program := "ythcnlmahlmndhaa", sum := "ae15337f288fca6052cc57558355320e2e583d2e5f9e3b43a65ed58dbeb46052", func := "loop.example/leadline/laws.FnExactCnfOk", spec := "fnExactCnfOk", unfollowed := true, recurses := true, plainKeys := false, apart := false, narrowed := true }
def FnExactCnfOkUptoSaid : Prop := fnExactCnfOkUptoRow.holds Try.pinned (OpenSpec.upto fnExactCnfOkSpec)

/-- 'laws.FnExactBddVar', WHERE WHAT IT READS IS OF BULK AT MOST 1048576: true; the input reads as it did. -/
def fnExactBddVarUptoRow : OpenClaim := { program := "ythcnlmahlmndhaa", sum := "ae15337f288fca6052cc57558355320e2e583d2e5f9e3b43a65ed58dbeb46052", func := "loop.example/leadline/laws.FnExactBddVar", spec := "fnExactBddVar", unfollowed := true, recurses := true, plainKeys := false, apart := false, narrowed := true }
def FnExactBddVarUptoSaid : Prop := fnExactBddVarUptoRow.holds Try.pinned (OpenSpec.upto fnExactBddVarSpec)

/-- 'laws.FnExactBddConst', WHERE WHAT IT READS IS OF BULK AT MOST 1048576: true; the input reads as it did. -/
def fnExactBddConstUptoRow : OpenClaim := { program := "ythcnlmahlmndhaa", sum := "ae15337f288fca6052cc57558355320e2e583d2e5f9e3b43a65ed58dbeb46052", func := "loop.example/leadline/laws.FnExactBddConst", spec := "fnExactBddConst", unfollowed := true, recurses := true, plainKeys := false, apart := false, narrowed := true }
def FnExactBddConstUptoSaid : Prop := fnExactBddConstUptoRow.holds Try.pinned (OpenSpec.upto fnExactBddConstSpec)

/-- 'laws.FnExactCnfHolds', WHERE WHAT IT READS IS OF BULK AT MOST 1048576: true; the input reads as it did. -/
def fnExactCnfHoldsUptoRow : OpenClaim := { program := "ythcnlmahlmndhaa", sum := "ae15337f288fca6052cc57558355320e2e583d2e5f9e3b43a65ed58dbeb46052", func := "loop.example/leadline/laws.FnExactCnfHolds", spec := "fnExactCnfHolds", unfollowed := true, recurses := true, plainKeys := false, apart := false, narrowed := true }
def FnExactCnfHoldsUptoSaid : Prop := fnExactCnfHoldsUptoRow.holds Try.pinned (OpenSpec.upto fnExactCnfHoldsSpec)

/-- 'laws.FnExactSatLeast', WHERE WHAT IT READS IS OF BULK AT MOST 1048576: true; the input reads as it did. -/
def fnExactSatLeastUptoRow : OpenClaim := { program := "ythcnlmahlmndhaa", sum := "ae15337f288fca6052cc57558355320e2e583d2e5f9e3b43a65ed58dbeb46052", func := "loop.example/leadline/laws.FnExactSatLeast", spec := "fnExactSatLeast", unfollowed := true, recurses := true, plainKeys := false, apart := false, narrowed := true }
def FnExactSatLeastUptoSaid : Prop := fnExactSatLeastUptoRow.holds Try.pinned (OpenSpec.upto fnExactSatLeastSpec)

/-- 'laws.FnUnits', WHERE WHAT IT READS IS OF BULK AT MOST 1048576: true; the input reads as it did. -/
def fnUnitsUptoRow : OpenClaim := { program := "ythcnlmahlmndhaa", sum := "ae15337f288fca6052cc57558355320e2e583d2e5f9e3b43a65ed58dbeb46052", func := "loop.example/leadline/laws.FnUnits", spec := "fnUnits", unfollowed := true, recurses := true, plainKeys := false, apart := false, narrowed := true }
def FnUnitsUptoSaid : Prop := fnUnitsUptoRow.holds Try.pinned (OpenSpec.upto fnUnitsSpec)

end Rows
end Go.Proofs.Ythcnlmahlmndhaa
