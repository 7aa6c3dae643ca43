/- FnExactTraceLift: The program's TraceLift returns what the reference's returns, for all arguments. This text proves that the given law FnExactTraceLift returns true for every input: no condition is added. -/
import Derived.Test.YthfcbpocfmjefaaGreatRows
import Derived.Test.YthfcbpocfmjefaaGreatJoinFnExactTraceLift
import Derived.Test.YthfcbpocfmjefaaGreatZ3
import Derived.WalkKit
import Derived.ProofKit
import Derived.OpenShut
import Derived.ShutString
import Derived.ChangeOld
import Derived.Below
import Derived.SizedLaws
namespace Go.Proofs.YthfcbpocfmjefaaGreat.fnExactTraceLift
open Go.ChangeShapes Go.WideShapes Go.ChangeAt Go.RowKit
open Go.ChangeMaps (open_string shut_string)
set_option linter.unusedVariables false


theorem walked {n : FuncId} {args : Array Value} {W : World} (c : Lead.ACalls Tryz.prog n args (Lead.hW W) fun v _ => v = .bool true) :
    Calls Tryz.prog n args W fun e W' => e = .returned (.bool true) ∧ Below W.heap.size W W' := by
  refine (c.2 W.heap.size W W (Nat.le_refl _) (Lead.rel_hW W)).mono ?_
  rintro e W' ⟨v, h', rfl, r, rfl⟩
  exact ⟨rfl, r.below⟩

theorem gsort {W : World} {ds : List Value} (g : Lead.Got Tryz.prog W 196 ds) : ∃ n : Lead.SortP, ds = Lead.sortCells n := by
  have hz : ds.length = 2 := (Lead.Got.size Tryz.underlying196 g).trans (by kernel_rfl)
  obtain ⟨x0, x1, rfl⟩ := Lead.list2 hz
  have g0 : Lead.Got Tryz.prog W 3 [x0] := Lead.Got.fld Tryz.underlying196 g 0 rfl (n := 1) (by kernel_rfl)
  have g1 : Lead.Got Tryz.prog W 3 [x1] := Lead.Got.fld Tryz.underlying196 g 1 rfl (n := 1) (by kernel_rfl)
  obtain ⟨n0, e0, _⟩ := Lead.Got.int (k := .i64) Tryz.underlying3 g0
  obtain rfl : x0 = .int .i64 n0 := by simpa using e0
  obtain ⟨n1, e1, _⟩ := Lead.Got.int (k := .i64) Tryz.underlying3 g1
  obtain rfl : x1 = .int .i64 n1 := by simpa using e1
  exact ⟨⟨n0, n1⟩, rfl⟩

theorem gbind {W : World} {ds : List Value} (g : Lead.Got Tryz.prog W 201 ds) : ∃ n : Lead.BindP, ds = Lead.bindCells n ∧ True := by
  have hz : ds.length = 2 := (Lead.Got.size Tryz.underlying201 g).trans (by kernel_rfl)
  obtain ⟨x0, x1, rfl⟩ := Lead.list2 hz
  have g0 : Lead.Got Tryz.prog W 3 [x0] := Lead.Got.fld Tryz.underlying201 g 0 rfl (n := 1) (by kernel_rfl)
  have g1 : Lead.Got Tryz.prog W 3 [x1] := Lead.Got.fld Tryz.underlying201 g 1 rfl (n := 1) (by kernel_rfl)
  obtain ⟨n0, e0, _⟩ := Lead.Got.int (k := .i64) Tryz.underlying3 g0
  obtain rfl : x0 = .int .i64 n0 := by simpa using e0
  obtain ⟨n1, e1, _⟩ := Lead.Got.int (k := .i64) Tryz.underlying3 g1
  obtain rfl : x1 = .int .i64 n1 := by simpa using e1
  exact ⟨⟨n0, n1⟩, rfl, trivial⟩

theorem gnode {W : World} {ds : List Value} (g : Lead.Got Tryz.prog W 198 ds) : ∃ n : Lead.NodeP, ds = Lead.nodeCells n ∧ n.name.size ≤ 9223372036854775807 := by
  have hz : ds.length = 9 := (Lead.Got.size Tryz.underlying198 g).trans (by kernel_rfl)
  obtain ⟨x0, x1, x2, x3, x4, x5, x6, x7, x8, rfl⟩ := Lead.list9 hz
  have g0 : Lead.Got Tryz.prog W 3 [x0] := Lead.Got.fld Tryz.underlying198 g 0 rfl (n := 1) (by kernel_rfl)
  have g1 : Lead.Got Tryz.prog W 3 [x1] := Lead.Got.fld Tryz.underlying198 g 1 rfl (n := 1) (by kernel_rfl)
  have g2 : Lead.Got Tryz.prog W 3 [x2] := Lead.Got.fld Tryz.underlying198 g 2 rfl (n := 1) (by kernel_rfl)
  have g3 : Lead.Got Tryz.prog W 3 [x3] := Lead.Got.fld Tryz.underlying198 g 3 rfl (n := 1) (by kernel_rfl)
  have g4 : Lead.Got Tryz.prog W 3 [x4] := Lead.Got.fld Tryz.underlying198 g 4 rfl (n := 1) (by kernel_rfl)
  have g5 : Lead.Got Tryz.prog W 3 [x5] := Lead.Got.fld Tryz.underlying198 g 5 rfl (n := 1) (by kernel_rfl)
  have g6 : Lead.Got Tryz.prog W 196 [x6, x7] := Lead.Got.fld Tryz.underlying198 g 6 rfl (n := 2) (by kernel_rfl)
  have g8 : Lead.Got Tryz.prog W 9 [x8] := Lead.Got.fld Tryz.underlying198 g 7 rfl (n := 1) (by kernel_rfl)
  obtain ⟨n0, e0, _⟩ := Lead.Got.int (k := .i64) Tryz.underlying3 g0
  obtain rfl : x0 = .int .i64 n0 := by simpa using e0
  obtain ⟨n1, e1, _⟩ := Lead.Got.int (k := .i64) Tryz.underlying3 g1
  obtain rfl : x1 = .int .i64 n1 := by simpa using e1
  obtain ⟨n2, e2, _⟩ := Lead.Got.int (k := .i64) Tryz.underlying3 g2
  obtain rfl : x2 = .int .i64 n2 := by simpa using e2
  obtain ⟨n3, e3, _⟩ := Lead.Got.int (k := .i64) Tryz.underlying3 g3
  obtain rfl : x3 = .int .i64 n3 := by simpa using e3
  obtain ⟨n4, e4, _⟩ := Lead.Got.int (k := .i64) Tryz.underlying3 g4
  obtain rfl : x4 = .int .i64 n4 := by simpa using e4
  obtain ⟨n5, e5, _⟩ := Lead.Got.int (k := .i64) Tryz.underlying3 g5
  obtain rfl : x5 = .int .i64 n5 := by simpa using e5
  obtain ⟨t, e6⟩ := gsort g6
  simp only [Lead.sortCells, List.cons.injEq, and_true] at e6
  obtain ⟨rfl, rfl⟩ := e6
  obtain ⟨s, e8, hs⟩ := Lead.Got.string Tryz.underlying9 g8
  obtain rfl : x8 = .string s := by simpa using e8
  exact ⟨⟨n0, n1, n2, n3, n4, n5, t, s⟩, rfl, hs⟩

set_option maxRecDepth 100000 in
theorem lifted (os : Os) (started : os.Started) (H : Type) (enc : TypeId × Value → H) :
    ReturnsInHanded {} Tryz.checked os 5 .any (Rows.fnExactTraceLiftSpec.pre6 enc Tryz.prog Tryz.f5 Rows.fnExactTraceLiftRow.domain false) (Rows.fnExactTraceLiftSpec.post enc Tryz.prog Tryz.f5 false true false false) := by
  refine returnsInHanded_of_change_sized (C := Tryz.checked) own started (by kernel_rfl) Tryz.func5
    (ChangeSpec.witness6 (enc := enc) (C := Tryz.checked) false ⟨#[], #[.agg #[.slice none 0 0, .slice none 0 0, .slice none 0 0, .slice none 0 0, .slice none 0 0], .agg #[.slice none 0 0, .slice none 0 0]], []⟩ 8 (by kernel_rfl) (by kernel_rfl) (by kernel_rfl) (by kernel_rfl)) ?_
  intro W base args ds gs before hval0 hW hcnd hsz0 _
  have hval : ∀ (j : Nat) t v, Tryz.f5.params[j]? = some t → args[j]? = some v → Value.okWide Tryz.prog W .any base t v := hval0
  have hW' := hW
  obtain ⟨p, q, hA0, hV, rfl, hfz, hnd⟩ := hW
  have hA : DataW.TrodAll enc Tryz.prog W 0 (fun _ => true) true Tryz.f5.params.toList args.toList ds p := hA0
  rw [Tryz.params5] at hA hval
  obtain ⟨v0, vs0, d0, ds0, p0, q0, hargs, rfl, rfl, h0, r0⟩ := trodAll_cons hA
  obtain ⟨v1, vs1, d1, ds1, p1, q1, rfl, rfl, rfl, h1, r1⟩ := trodAll_cons r0
  obtain ⟨rfl, rfl, rfl⟩ := trodAll_nil r1
  obtain rfl : args = #[v0, v1] := by cases args; simp_all
  obtain ⟨rfl, rfl⟩ := trodVars_none hV
  have lt0 : ∀ x ∈ p0, x.block < W.heap.size := by obtain ⟨m, hm⟩ := h0; exact DataW.trod_lt m _ _ _ hm
  have k0 := h0
  obtain ⟨cs0, rfl, z0⟩ := okWide_struct Tryz.underlying54 (hval 0 54 v0 rfl rfl)
  have g0 := Lead.Got.of h0
  have c0 : Tryz.prog.cellsOf 54 = 5 := by kernel_rfl
  rw [c0] at z0
  obtain ⟨x0_0, x0_1, x0_2, x0_3, x0_4, rfl⟩ := Lead.arr5 z0
  have g0_0 : Lead.Got Tryz.prog W 51 [x0_0] := Lead.Got.fld Tryz.underlying54 g0 0 rfl (n := 1) (by kernel_rfl)
  have g0_1 : Lead.Got Tryz.prog W 52 [x0_1] := Lead.Got.fld Tryz.underlying54 g0 1 rfl (n := 1) (by kernel_rfl)
  have g0_2 : Lead.Got Tryz.prog W 52 [x0_2] := Lead.Got.fld Tryz.underlying54 g0 2 rfl (n := 1) (by kernel_rfl)
  have g0_3 : Lead.Got Tryz.prog W 25 [x0_3] := Lead.Got.fld Tryz.underlying54 g0 3 rfl (n := 1) (by kernel_rfl)
  have g0_4 : Lead.Got Tryz.prog W 25 [x0_4] := Lead.Got.fld Tryz.underlying54 g0 4 rfl (n := 1) (by kernel_rfl)
  obtain ⟨s0_0, l0_0, rfl, c0_0, i0_0, w0_0⟩ := Lead.Got.flat (f := Lead.nodeCells) (m := 9) (fun _ => rfl) (by decide) Tryz.underlying51 (by kernel_rfl) (fun ds g => gnode g) g0_0
  obtain ⟨s0_1, l0_1, rfl, c0_1, i0_1, _⟩ := Lead.Got.flat (f := Lead.bindCells) (m := 2) (fun _ => rfl) (by decide) Tryz.underlying52 (by kernel_rfl) (fun ds g => gbind g) g0_1
  obtain ⟨s0_2, l0_2, rfl, c0_2, i0_2, _⟩ := Lead.Got.flat (f := Lead.bindCells) (m := 2) (fun _ => rfl) (by decide) Tryz.underlying52 (by kernel_rfl) (fun ds g => gbind g) g0_2
  obtain ⟨s0_3, xs0_3, rfl, _, i0_3, w0_3⟩ := Lead.Got.ints Tryz.underlying25 Tryz.underlying3 (by kernel_rfl) g0_3
  obtain ⟨s0_4, xs0_4, rfl, _, i0_4, w0_4⟩ := Lead.Got.ints Tryz.underlying25 Tryz.underlying3 (by kernel_rfl) g0_4
  have lt1 : ∀ x ∈ p1, x.block < W.heap.size := by obtain ⟨m, hm⟩ := h1; exact DataW.trod_lt m _ _ _ hm
  have k1 := h1
  obtain ⟨cs1, rfl, z1⟩ := okWide_struct Tryz.underlying63 (hval 1 63 v1 rfl rfl)
  have g1 := Lead.Got.of h1
  have c1 : Tryz.prog.cellsOf 63 = 2 := by kernel_rfl
  rw [c1] at z1
  obtain ⟨x1_0, x1_1, rfl⟩ := Lead.arr2 z1
  have g1_0 : Lead.Got Tryz.prog W 25 [x1_0] := Lead.Got.fld Tryz.underlying63 g1 0 rfl (n := 1) (by kernel_rfl)
  have g1_1 : Lead.Got Tryz.prog W 25 [x1_1] := Lead.Got.fld Tryz.underlying63 g1 1 rfl (n := 1) (by kernel_rfl)
  obtain ⟨s1_0, xs1_0, rfl, _, i1_0, w1_0⟩ := Lead.Got.ints Tryz.underlying25 Tryz.underlying3 (by kernel_rfl) g1_0
  obtain ⟨s1_1, xs1_1, rfl, _, i1_1, w1_1⟩ := Lead.Got.ints Tryz.underlying25 Tryz.underlying3 (by kernel_rfl) g1_1
  refine (walked (Lead.FnExactTraceLift_spec (M := ⟨s0_0, s0_1, s0_2, s0_3, s0_4⟩) (m := ⟨l0_0, l0_1, l0_2, xs0_3, xs0_4⟩) ⟨i0_0, i0_1, i0_2, i0_3, i0_4, c0_0⟩ w0_0 i1_0 i1_1 rfl)).mono fun e W' ⟨he, bel⟩ => ?_
  subst he
  exact ⟨_, rfl, _, _, _, [], _, [], hW', trodAll_mk1 (shut_bool Tryz.underlying4 _), (trodAll_cons_mk (Below.trod laidOut (by kernel_rfl) (of_decide_eq_true (by kernel_rfl)) k0 bel lt0) (trodAll_cons_mk (Below.trod laidOut (by kernel_rfl) (of_decide_eq_true (by kernel_rfl)) k1 bel lt1) trodAll_mk0)), rfl, bel.frame _, fun h => by cases h⟩
theorem over : Rows.fnExactTraceLiftRow.holds Tryz.pinned (OpenSpec.ofChange Rows.fnExactTraceLiftSpec) :=
  OpenClaim.holds_of_wide 5 Tryz.f5 rfl rfl rfl rfl rfl rfl rfl ⟨rfl, rfl, rfl, rfl, rfl⟩ rfl rfl rfl rfl rfl (by kernel_rfl) Tryz.func5 joined
    (of_decide_eq_true (by kernel_rfl)) (by unfold Func.isWrapper; first | (rw [if_pos (by decide +kernel)]; kernel_rfl) | (rw [if_neg (by decide +kernel)]; exact ⟨rfl, rfl⟩))
    (fun os started H enc _ => lifted os started H enc)
end Go.Proofs.YthfcbpocfmjefaaGreat.fnExactTraceLift
namespace Go.Proofs.YthfcbpocfmjefaaGreat
/-- The row, under a short name, for the claim. -/
theorem fnExactTraceLift_holds : Rows.FnExactTraceLiftSaid := fnExactTraceLift.over
end Go.Proofs.YthfcbpocfmjefaaGreat
