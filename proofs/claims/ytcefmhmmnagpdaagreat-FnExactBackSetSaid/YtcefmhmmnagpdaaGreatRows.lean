/-
  No cell of these rows narrows 'for every input' (looked for: loops, veiled, ifaces, maps, wideKeys, modest, calm, conditions, laid).
  DERIVED. THE GIVEN ROWS OF THIS SEAT. 12 by the template 'for every input the law returns true; each argument reads behind the call as it read before'; 0 by the template 'total and deterministic' (their statements: YtcefmhmmnagpdaaGreatTotals.lean).
  GIVEN WITH THE SEED: the statements are not yours to turn. If you find one false, say at which input.
  Laid BY PROGRAM, IN A SANDBOX (cutbox-rows.mjs): the forced cells as the released guide's own fill.sh prints them over the translation b0c466f97a985fa2… (all of the seat's roots in one cut). By AI agents, Wed Nov 11 2026. No macro, syntax, notation, axiom, sorry.
-/
import Derived.Test.YtcefmhmmnagpdaaGreatChecked
import GoSem.Claim
import GoSem.ClaimJoined
import GoSem.ClaimMapViews
import Derived.JoinedTies
import Derived.KernelRfl
namespace Go.Proofs.YtcefmhmmnagpdaaGreat
/- THE CELL 'sum', in the pinned program and in every row, IS THE sha256 OF THE DUMP (.gsa) THAT YtcefmhmmnagpdaaGreatProg.lean LOADS. Nothing in Lean hashes anything: it is a label: what it is worth is what the hold of that sum in a sandbox is worth. -/
noncomputable def Tryz.pinned : Pinned := { name := "ytcefmhmmnagpdaagreat", sum := "b0c466f97a985fa22e38a375899ec1918475a8dfab0157ea63d92dd6f3fe6961", checked := Tryz.checked }
namespace Rows
def none {H : Type} : Left H := { results := [], args := [] }

/-- 'laws.FnExactNodeBits': WHATEVER THE INPUT: true; the input reads as it did. -/
def fnExactNodeBitsSpec : ChangeSpec := { name := "fnExactNodeBits", fn := fun _ => fun
  | [d1, d2] => { results := [.lit (.bool true)], args := [d1, d2] }
  | _ => none }
def fnExactNodeBitsRow : OpenClaim := { program := "ytcefmhmmnagpdaagreat", sum := "b0c466f97a985fa22e38a375899ec1918475a8dfab0157ea63d92dd6f3fe6961", func := "loop.example/leadline/laws.FnExactNodeBits", spec := "fnExactNodeBits", unfollowed := true, recurses := true, plainKeys := false, apart := false }
def FnExactNodeBitsSaid : Prop := fnExactNodeBitsRow.holds Tryz.pinned (OpenSpec.ofChange fnExactNodeBitsSpec)

/-- ITS FALSE NEIGHBOUR: 'it returns false'. Refute it at one input. -/
def fnExactNodeBitsWrong : ChangeSpec := { name := "fnExactNodeBits", fn := fun _ => fun
  | [d1, d2] => { results := [.lit (.bool false)], args := [d1, d2] }
  | _ => none }
def FnExactNodeBitsWrongFalsely : Prop := fnExactNodeBitsRow.holds Tryz.pinned (OpenSpec.ofChange fnExactNodeBitsWrong)

/-- 'laws.FnExactBadSet': WHATEVER THE INPUT: true; the input reads as it did. -/
def fnExactBadSetSpec : ChangeSpec := { name := "fnExactBadSet", fn := fun _ => fun
  | [d] => { results := [.lit (.bool true)], args := [d] }
  | _ => none }
def fnExactBadSetRow : OpenClaim := { program := "ytcefmhmmnagpdaagreat", sum := "b0c466f97a985fa22e38a375899ec1918475a8dfab0157ea63d92dd6f3fe6961", func := "loop.example/leadline/laws.FnExactBadSet", spec := "fnExactBadSet", unfollowed := true, recurses := true, plainKeys := false, apart := false }
def FnExactBadSetSaid : Prop := fnExactBadSetRow.holds Tryz.pinned (OpenSpec.ofChange fnExactBadSetSpec)

/-- ITS FALSE NEIGHBOUR: 'it returns false'. Refute it at one input. -/
def fnExactBadSetWrong : ChangeSpec := { name := "fnExactBadSet", fn := fun _ => fun
  | [d] => { results := [.lit (.bool false)], args := [d] }
  | _ => none }
def FnExactBadSetWrongFalsely : Prop := fnExactBadSetRow.holds Tryz.pinned (OpenSpec.ofChange fnExactBadSetWrong)

/-- 'laws.FnExactHoldSet': WHATEVER THE INPUT: true; the input reads as it did. -/
def fnExactHoldSetSpec : ChangeSpec := { name := "fnExactHoldSet", fn := fun _ => fun
  | [d] => { results := [.lit (.bool true)], args := [d] }
  | _ => none }
def fnExactHoldSetRow : OpenClaim := { program := "ytcefmhmmnagpdaagreat", sum := "b0c466f97a985fa22e38a375899ec1918475a8dfab0157ea63d92dd6f3fe6961", func := "loop.example/leadline/laws.FnExactHoldSet", spec := "fnExactHoldSet", unfollowed := true, recurses := true, plainKeys := false, apart := false }
def FnExactHoldSetSaid : Prop := fnExactHoldSetRow.holds Tryz.pinned (OpenSpec.ofChange fnExactHoldSetSpec)

/-- ITS FALSE NEIGHBOUR: 'it returns false'. Refute it at one input. -/
def fnExactHoldSetWrong : ChangeSpec := { name := "fnExactHoldSet", fn := fun _ => fun
  | [d] => { results := [.lit (.bool false)], args := [d] }
  | _ => none }
def FnExactHoldSetWrongFalsely : Prop := fnExactHoldSetRow.holds Tryz.pinned (OpenSpec.ofChange fnExactHoldSetWrong)

/-- 'laws.FnExactBmcDepth': WHATEVER THE INPUT: true; the input reads as it did. -/
def fnExactBmcDepthSpec : ChangeSpec := { name := "fnExactBmcDepth", fn := fun _ => fun
  | [d] => { results := [.lit (.bool true)], args := [d] }
  | _ => none }
def fnExactBmcDepthRow : OpenClaim := { program := "ytcefmhmmnagpdaagreat", sum := "b0c466f97a985fa22e38a375899ec1918475a8dfab0157ea63d92dd6f3fe6961", func := "loop.example/leadline/laws.FnExactBmcDepth", spec := "fnExactBmcDepth", unfollowed := true, recurses := true, plainKeys := false, apart := false }
def FnExactBmcDepthSaid : Prop := fnExactBmcDepthRow.holds Tryz.pinned (OpenSpec.ofChange fnExactBmcDepthSpec)

/-- ITS FALSE NEIGHBOUR: 'it returns false'. Refute it at one input. -/
def fnExactBmcDepthWrong : ChangeSpec := { name := "fnExactBmcDepth", fn := fun _ => fun
  | [d] => { results := [.lit (.bool false)], args := [d] }
  | _ => none }
def FnExactBmcDepthWrongFalsely : Prop := fnExactBmcDepthRow.holds Tryz.pinned (OpenSpec.ofChange fnExactBmcDepthWrong)

/-- 'laws.FnExactKInduct': WHATEVER THE INPUT: true; the input reads as it did. -/
def fnExactKInductSpec : ChangeSpec := { name := "fnExactKInduct", fn := fun _ => fun
  | [d1, d2] => { results := [.lit (.bool true)], args := [d1, d2] }
  | _ => none }
def fnExactKInductRow : OpenClaim := { program := "ytcefmhmmnagpdaagreat", sum := "b0c466f97a985fa22e38a375899ec1918475a8dfab0157ea63d92dd6f3fe6961", func := "loop.example/leadline/laws.FnExactKInduct", spec := "fnExactKInduct", unfollowed := true, recurses := true, plainKeys := false, apart := false }
def FnExactKInductSaid : Prop := fnExactKInductRow.holds Tryz.pinned (OpenSpec.ofChange fnExactKInductSpec)

/-- ITS FALSE NEIGHBOUR: 'it returns false'. Refute it at one input. -/
def fnExactKInductWrong : ChangeSpec := { name := "fnExactKInduct", fn := fun _ => fun
  | [d1, d2] => { results := [.lit (.bool false)], args := [d1, d2] }
  | _ => none }
def FnExactKInductWrongFalsely : Prop := fnExactKInductRow.holds Tryz.pinned (OpenSpec.ofChange fnExactKInductWrong)

/-- 'laws.FnExactInitSet': WHATEVER THE INPUT: true; the input reads as it did. -/
def fnExactInitSetSpec : ChangeSpec := { name := "fnExactInitSet", fn := fun _ => fun
  | [d] => { results := [.lit (.bool true)], args := [d] }
  | _ => none }
def fnExactInitSetRow : OpenClaim := { program := "ytcefmhmmnagpdaagreat", sum := "b0c466f97a985fa22e38a375899ec1918475a8dfab0157ea63d92dd6f3fe6961", func := "loop.example/leadline/laws.FnExactInitSet", spec := "fnExactInitSet", unfollowed := true, recurses := true, plainKeys := false, apart := false }
def FnExactInitSetSaid : Prop := fnExactInitSetRow.holds Tryz.pinned (OpenSpec.ofChange fnExactInitSetSpec)

/-- ITS FALSE NEIGHBOUR: 'it returns false'. Refute it at one input. -/
def fnExactInitSetWrong : ChangeSpec := { name := "fnExactInitSet", fn := fun _ => fun
  | [d] => { results := [.lit (.bool false)], args := [d] }
  | _ => none }
def FnExactInitSetWrongFalsely : Prop := fnExactInitSetRow.holds Tryz.pinned (OpenSpec.ofChange fnExactInitSetWrong)

/-- 'laws.FnExactBackSet': WHATEVER THE INPUT: true; the input reads as it did. -/
def fnExactBackSetSpec : ChangeSpec := { name := "fnExactBackSet", fn := fun _ => fun
  | [d] => { results := [.lit (.bool true)], args := [d] }
  | _ => none }
def fnExactBackSetRow : OpenClaim := { program := "ytcefmhmmnagpdaagreat", sum := "b0c466f97a985fa22e38a375899ec1918475a8dfab0157ea63d92dd6f3fe6961", func := "loop.example/leadline/laws.FnExactBackSet", spec := "fnExactBackSet", unfollowed := true, recurses := true, plainKeys := false, apart := false }
def FnExactBackSetSaid : Prop := fnExactBackSetRow.holds Tryz.pinned (OpenSpec.ofChange fnExactBackSetSpec)

/-- ITS FALSE NEIGHBOUR: 'it returns false'. Refute it at one input. -/
def fnExactBackSetWrong : ChangeSpec := { name := "fnExactBackSet", fn := fun _ => fun
  | [d] => { results := [.lit (.bool false)], args := [d] }
  | _ => none }
def FnExactBackSetWrongFalsely : Prop := fnExactBackSetRow.holds Tryz.pinned (OpenSpec.ofChange fnExactBackSetWrong)

/-- 'laws.FnExactLayerSet': WHATEVER THE INPUT: true; the input reads as it did. -/
def fnExactLayerSetSpec : ChangeSpec := { name := "fnExactLayerSet", fn := fun _ => fun
  | [d1, d2] => { results := [.lit (.bool true)], args := [d1, d2] }
  | _ => none }
def fnExactLayerSetRow : OpenClaim := { program := "ytcefmhmmnagpdaagreat", sum := "b0c466f97a985fa22e38a375899ec1918475a8dfab0157ea63d92dd6f3fe6961", func := "loop.example/leadline/laws.FnExactLayerSet", spec := "fnExactLayerSet", unfollowed := true, recurses := true, plainKeys := false, apart := false }
def FnExactLayerSetSaid : Prop := fnExactLayerSetRow.holds Tryz.pinned (OpenSpec.ofChange fnExactLayerSetSpec)

/-- ITS FALSE NEIGHBOUR: 'it returns false'. Refute it at one input. -/
def fnExactLayerSetWrong : ChangeSpec := { name := "fnExactLayerSet", fn := fun _ => fun
  | [d1, d2] => { results := [.lit (.bool false)], args := [d1, d2] }
  | _ => none }
def FnExactLayerSetWrongFalsely : Prop := fnExactLayerSetRow.holds Tryz.pinned (OpenSpec.ofChange fnExactLayerSetWrong)

/-- 'laws.FnExactBmcLeast': WHATEVER THE INPUT: true; the input reads as it did. -/
def fnExactBmcLeastSpec : ChangeSpec := { name := "fnExactBmcLeast", fn := fun _ => fun
  | [d1, d2] => { results := [.lit (.bool true)], args := [d1, d2] }
  | _ => none }
def fnExactBmcLeastRow : OpenClaim := { program := "ytcefmhmmnagpdaagreat", sum := "b0c466f97a985fa22e38a375899ec1918475a8dfab0157ea63d92dd6f3fe6961", func := "loop.example/leadline/laws.FnExactBmcLeast", spec := "fnExactBmcLeast", unfollowed := true, recurses := true, plainKeys := false, apart := false }
def FnExactBmcLeastSaid : Prop := fnExactBmcLeastRow.holds Tryz.pinned (OpenSpec.ofChange fnExactBmcLeastSpec)

/-- ITS FALSE NEIGHBOUR: 'it returns false'. Refute it at one input. -/
def fnExactBmcLeastWrong : ChangeSpec := { name := "fnExactBmcLeast", fn := fun _ => fun
  | [d1, d2] => { results := [.lit (.bool false)], args := [d1, d2] }
  | _ => none }
def FnExactBmcLeastWrongFalsely : Prop := fnExactBmcLeastRow.holds Tryz.pinned (OpenSpec.ofChange fnExactBmcLeastWrong)

/-- 'laws.FnExactReachSet': WHATEVER THE INPUT: true; the input reads as it did. -/
def fnExactReachSetSpec : ChangeSpec := { name := "fnExactReachSet", fn := fun _ => fun
  | [d] => { results := [.lit (.bool true)], args := [d] }
  | _ => none }
def fnExactReachSetRow : OpenClaim := { program := "ytcefmhmmnagpdaagreat", sum := "b0c466f97a985fa22e38a375899ec1918475a8dfab0157ea63d92dd6f3fe6961", func := "loop.example/leadline/laws.FnExactReachSet", spec := "fnExactReachSet", unfollowed := true, recurses := true, plainKeys := false, apart := false }
def FnExactReachSetSaid : Prop := fnExactReachSetRow.holds Tryz.pinned (OpenSpec.ofChange fnExactReachSetSpec)

/-- ITS FALSE NEIGHBOUR: 'it returns false'. Refute it at one input. -/
def fnExactReachSetWrong : ChangeSpec := { name := "fnExactReachSet", fn := fun _ => fun
  | [d] => { results := [.lit (.bool false)], args := [d] }
  | _ => none }
def FnExactReachSetWrongFalsely : Prop := fnExactReachSetRow.holds Tryz.pinned (OpenSpec.ofChange fnExactReachSetWrong)

/-- 'laws.FnExactInvWeak': WHATEVER THE INPUT: true; the input reads as it did. -/
def fnExactInvWeakSpec : ChangeSpec := { name := "fnExactInvWeak", fn := fun _ => fun
  | [d] => { results := [.lit (.bool true)], args := [d] }
  | _ => none }
def fnExactInvWeakRow : OpenClaim := { program := "ytcefmhmmnagpdaagreat", sum := "b0c466f97a985fa22e38a375899ec1918475a8dfab0157ea63d92dd6f3fe6961", func := "loop.example/leadline/laws.FnExactInvWeak", spec := "fnExactInvWeak", unfollowed := true, recurses := true, plainKeys := false, apart := false }
def FnExactInvWeakSaid : Prop := fnExactInvWeakRow.holds Tryz.pinned (OpenSpec.ofChange fnExactInvWeakSpec)

/-- ITS FALSE NEIGHBOUR: 'it returns false'. Refute it at one input. -/
def fnExactInvWeakWrong : ChangeSpec := { name := "fnExactInvWeak", fn := fun _ => fun
  | [d] => { results := [.lit (.bool false)], args := [d] }
  | _ => none }
def FnExactInvWeakWrongFalsely : Prop := fnExactInvWeakRow.holds Tryz.pinned (OpenSpec.ofChange fnExactInvWeakWrong)

/-- 'laws.FnExactCheck': WHATEVER THE INPUT: true; the input reads as it did. -/
def fnExactCheckSpec : ChangeSpec := { name := "fnExactCheck", fn := fun _ => fun
  | [d1, d2] => { results := [.lit (.bool true)], args := [d1, d2] }
  | _ => none }
def fnExactCheckRow : OpenClaim := { program := "ytcefmhmmnagpdaagreat", sum := "b0c466f97a985fa22e38a375899ec1918475a8dfab0157ea63d92dd6f3fe6961", func := "loop.example/leadline/laws.FnExactCheck", spec := "fnExactCheck", unfollowed := true, recurses := true, plainKeys := false, apart := false }
def FnExactCheckSaid : Prop := fnExactCheckRow.holds Tryz.pinned (OpenSpec.ofChange fnExactCheckSpec)

/-- ITS FALSE NEIGHBOUR: 'it returns false'. Refute it at one input. -/
def fnExactCheckWrong : ChangeSpec := { name := "fnExactCheck", fn := fun _ => fun
  | [d1, d2] => { results := [.lit (.bool false)], args := [d1, d2] }
  | _ => none }
def FnExactCheckWrongFalsely : Prop := fnExactCheckRow.holds Tryz.pinned (OpenSpec.ofChange fnExactCheckWrong)

/- THE SECOND FORM. 'bulk': how many values and letters a reading holds, each counted each time it is reached (what is shared counts as often as it is met; a slice's spare places count too). A statement '..UptoSaid' is the law's where the arguments, and the package variables that the reading takes, are together of bulk at most 1048576: NARROWER than '..Said'. Prove '..Said' where nothing that the law and all that it calls make is longer than what came in: it says more and counts as full. Else prove '..UptoSaid'. A law counts once. -/
mutual
def uptoBulk {H : Type} : DataW H → Nat
  | .lit (.string bytes) => bytes.length + 1
  | .lit _ => 1
  | .nil => 1
  | .ptr d => uptoBulk d + 1
  | .slice elems spare => uptoBulkAll elems + uptoBulkAll spare + 1
  | .agg parts => uptoBulkAll parts + 1
  | .iface _ d => uptoBulk d + 1
  | .map entries => uptoBulkEntries entries + 1
  | .held _ => 1
def uptoBulkAll {H : Type} : List (DataW H) → Nat
  | [] => 0
  | d :: r => uptoBulk d + uptoBulkAll r
def uptoBulkEntries {H : Type} : List (Lit × DataW H) → Nat
  | [] => 0
  | x :: r => uptoBulkEntry x + uptoBulkEntries r
def uptoBulkEntry {H : Type} : Lit × DataW H → Nat
  | (.string bytes, d) => bytes.length + uptoBulk d + 1
  | (_, d) => uptoBulk d + 1
 end
def uptoSmall : (H : Type) → List (DataW H) → Bool := fun _ ds => decide (uptoBulkAll ds ≤ 1048576)
def OpenSpec.upto (s : _root_.Go.ChangeSpec) : _root_.Go.OpenSpec := { _root_.Go.OpenSpec.ofChange s with cond := some uptoSmall }

/-- 'laws.FnExactNodeBits', WHERE WHAT IT READS IS OF BULK AT MOST 1048576: true; the input reads as it did. -/
def fnExactNodeBitsUptoRow : OpenClaim := { program := "ytcefmhmmnagpdaagreat", sum := "b0c466f97a985fa22e38a375899ec1918475a8dfab0157ea63d92dd6f3fe6961", func := "loop.example/leadline/laws.FnExactNodeBits", spec := "fnExactNodeBits", unfollowed := true, recurses := true, plainKeys := false, apart := false, narrowed := true }
def FnExactNodeBitsUptoSaid : Prop := fnExactNodeBitsUptoRow.holds Tryz.pinned (OpenSpec.upto fnExactNodeBitsSpec)

/-- 'laws.FnExactBadSet', WHERE WHAT IT READS IS OF BULK AT MOST 1048576: true; the input reads as it did. -/
def fnExactBadSetUptoRow : OpenClaim := { program := "ytcefmhmmnagpdaagreat", sum := "b0c466f97a985fa22e38a375899ec1918475a8dfab0157ea63d92dd6f3fe6961", func := "loop.example/leadline/laws.FnExactBadSet", spec := "fnExactBadSet", unfollowed := true, recurses := true, plainKeys := false, apart := false, narrowed := true }
def FnExactBadSetUptoSaid : Prop := fnExactBadSetUptoRow.holds Tryz.pinned (OpenSpec.upto fnExactBadSetSpec)

/-- 'laws.FnExactHoldSet', WHERE WHAT IT READS IS OF BULK AT MOST 1048576: true; the input reads as it did. -/
def fnExactHoldSetUptoRow : OpenClaim := { program := "ytcefmhmmnagpdaagreat", sum := "b0c466f97a985fa22e38a375899ec1918475a8dfab0157ea63d92dd6f3fe6961", func := "loop.example/leadline/laws.FnExactHoldSet", spec := "fnExactHoldSet", unfollowed := true, recurses := true, plainKeys := false, apart := false, narrowed := true }
def FnExactHoldSetUptoSaid : Prop := fnExactHoldSetUptoRow.holds Tryz.pinned (OpenSpec.upto fnExactHoldSetSpec)

/-- 'laws.FnExactBmcDepth', WHERE WHAT IT READS IS OF BULK AT MOST 1048576: true; the input reads as it did. -/
def fnExactBmcDepthUptoRow : OpenClaim := { program := "ytcefmhmmnagpdaagreat", sum := "b0c466f97a985fa22e38a375899ec1918475a8dfab0157ea63d92dd6f3fe6961", func := "loop.example/leadline/laws.FnExactBmcDepth", spec := "fnExactBmcDepth", unfollowed := true, recurses := true, plainKeys := false, apart := false, narrowed := true }
def FnExactBmcDepthUptoSaid : Prop := fnExactBmcDepthUptoRow.holds Tryz.pinned (OpenSpec.upto fnExactBmcDepthSpec)

/-- 'laws.FnExactKInduct', WHERE WHAT IT READS IS OF BULK AT MOST 1048576: true; the input reads as it did. -/
def fnExactKInductUptoRow : OpenClaim := { program := "ytcefmhmmnagpdaagreat", sum := "b0c466f97a985fa22e38a375899ec1918475a8dfab0157ea63d92dd6f3fe6961", func := "loop.example/leadline/laws.FnExactKInduct", spec := "fnExactKInduct", unfollowed := true, recurses := true, plainKeys := false, apart := false, narrowed := true }
def FnExactKInductUptoSaid : Prop := fnExactKInductUptoRow.holds Tryz.pinned (OpenSpec.upto fnExactKInductSpec)

/-- 'laws.FnExactInitSet', WHERE WHAT IT READS IS OF BULK AT MOST 1048576: true; the input reads as it did. -/
def fnExactInitSetUptoRow : OpenClaim := { program := "ytcefmhmmnagpdaagreat", sum := "b0c466f97a985fa22e38a375899ec1918475a8dfab0157ea63d92dd6f3fe6961", func := "loop.example/leadline/laws.FnExactInitSet", spec := "fnExactInitSet", unfollowed := true, recurses := true, plainKeys := false, apart := false, narrowed := true }
def FnExactInitSetUptoSaid : Prop := fnExactInitSetUptoRow.holds Tryz.pinned (OpenSpec.upto fnExactInitSetSpec)

/-- 'laws.FnExactBackSet', WHERE WHAT IT READS IS OF BULK AT MOST 1048576: true; the input reads as it did. -/
def fnExactBackSetUptoRow : OpenClaim := { program := "ytcefmhmmnagpdaagreat", sum := "b0c466f97a985fa22e38a375899ec1918475a8dfab0157ea63d92dd6f3fe6961", func := "loop.example/leadline/laws.FnExactBackSet", spec := "fnExactBackSet", unfollowed := true, recurses := true, plainKeys := false, apart := false, narrowed := true }
def FnExactBackSetUptoSaid : Prop := fnExactBackSetUptoRow.holds Tryz.pinned (OpenSpec.upto fnExactBackSetSpec)

/-- 'laws.FnExactLayerSet', WHERE WHAT IT READS IS OF BULK AT MOST 1048576: true; the input reads as it did. -/
def fnExactLayerSetUptoRow : OpenClaim := { program := "ytcefmhmmnagpdaagreat", sum := "b0c466f97a985fa22e38a375899ec1918475a8dfab0157ea63d92dd6f3fe6961", func := "loop.example/leadline/laws.FnExactLayerSet", spec := "fnExactLayerSet", unfollowed := true, recurses := true, plainKeys := false, apart := false, narrowed := true }
def FnExactLayerSetUptoSaid : Prop := fnExactLayerSetUptoRow.holds Tryz.pinned (OpenSpec.upto fnExactLayerSetSpec)

/-- 'laws.FnExactBmcLeast', WHERE WHAT IT READS IS OF BULK AT MOST 1048576: true; the input reads as it did. -/
def fnExactBmcLeastUptoRow : OpenClaim := { program := "ytcefmhmmnagpdaagreat", sum := "b0c466f97a985fa22e38a375899ec1918475a8dfab0157ea63d92dd6f3fe6961", func := "loop.example/leadline/laws.FnExactBmcLeast", spec := "fnExactBmcLeast", unfollowed := true, recurses := true, plainKeys := false, apart := false, narrowed := true }
def FnExactBmcLeastUptoSaid : Prop := fnExactBmcLeastUptoRow.holds Tryz.pinned (OpenSpec.upto fnExactBmcLeastSpec)

/-- 'laws.FnExactReachSet', WHERE WHAT IT READS IS OF BULK AT MOST 1048576: true; the input reads as it did. -/
def fnExactReachSetUptoRow : OpenClaim := { program := "ytcefmhmmnagpdaagreat", sum := "b0c466f97a985fa22e38a375899ec1918475a8dfab0157ea63d92dd6f3fe6961", func := "loop.example/leadline/laws.FnExactReachSet", spec := "fnExactReachSet", unfollowed := true, recurses := true, plainKeys := false, apart := false, narrowed := true }
def FnExactReachSetUptoSaid : Prop := fnExactReachSetUptoRow.holds Tryz.pinned (OpenSpec.upto fnExactReachSetSpec)

/-- 'laws.FnExactInvWeak', WHERE WHAT IT READS IS OF BULK AT MOST 1048576: true; the input reads as it did. -/
def fnExactInvWeakUptoRow : OpenClaim := { program := "ytcefmhmmnagpdaagreat", sum := "b0c466f97a985fa22e38a375899ec1918475a8dfab0157ea63d92dd6f3fe6961", func := "loop.example/leadline/laws.FnExactInvWeak", spec := "fnExactInvWeak", unfollowed := true, recurses := true, plainKeys := false, apart := false, narrowed := true }
def FnExactInvWeakUptoSaid : Prop := fnExactInvWeakUptoRow.holds Tryz.pinned (OpenSpec.upto fnExactInvWeakSpec)

/-- 'laws.FnExactCheck', WHERE WHAT IT READS IS OF BULK AT MOST 1048576: true; the input reads as it did. -/
def fnExactCheckUptoRow : OpenClaim := { program := "ytcefmhmmnagpdaagreat", sum := "b0c466f97a985fa22e38a375899ec1918475a8dfab0157ea63d92dd6f3fe6961", func := "loop.example/leadline/laws.FnExactCheck", spec := "fnExactCheck", unfollowed := true, recurses := true, plainKeys := false, apart := false, narrowed := true }
def FnExactCheckUptoSaid : Prop := fnExactCheckUptoRow.holds Tryz.pinned (OpenSpec.upto fnExactCheckSpec)

end Rows
end Go.Proofs.YtcefmhmmnagpdaaGreat
