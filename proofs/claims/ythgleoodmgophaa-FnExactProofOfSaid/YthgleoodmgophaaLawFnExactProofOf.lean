/- FnExactProofOf: The program's ProofOf returns what the reference's returns, for all arguments. This text proves that the given law FnExactProofOf returns true for every input: no condition is added. -/
import Derived.Test.YthgleoodmgophaaRows
import Derived.Test.YthgleoodmgophaaQ4
import Derived.WalkKit
import Derived.ProofKit
import Derived.OpenShut
import Derived.ShutString
import Derived.ChangeOld
import Derived.Below
import Derived.SizedLaws
namespace Go.Proofs.Ythgleoodmgophaa.fnExactProofOf
open Go.ChangeShapes Go.WideShapes Go.ChangeAt Go.RowKit
open Go.ChangeMaps (open_string shut_string)
set_option linter.unusedVariables false

theorem own : ownKnob Try.prog.godebug = none := by kernel_rfl
theorem laidOut : laidOutB Try.prog = true := by kernel_rfl

theorem walked {n : FuncId} {args : Array Value} {W : World} (c : Lead.ACalls Try.prog n args (Lead.hW W) fun v _ => v = .bool true) :
    Calls Try.prog n args W fun e W' => e = .returned (.bool true) ∧ Below W.heap.size W W' := by
  refine (c.2 W.heap.size W W (Nat.le_refl _) (Lead.rel_hW W)).mono ?_
  rintro e W' ⟨v, h', rfl, r, rfl⟩
  exact ⟨rfl, r.below⟩

set_option maxRecDepth 100000 in
theorem lifted (os : Os) (started : os.Started) (H : Type) (enc : TypeId × Value → H) :
    ReturnsInHanded {} Try.checked os 9 .any (Rows.fnExactProofOfSpec.pre6 enc Try.prog Try.f9 Rows.fnExactProofOfRow.domain false) (Rows.fnExactProofOfSpec.post enc Try.prog Try.f9 false true false false) := by
  refine returnsInHanded_of_change_sized (C := Try.checked) own started (by kernel_rfl) Try.func9
    (ChangeSpec.witness6 (enc := enc) (C := Try.checked) false ⟨#[], #[.agg #[.int .i64 0, .slice none 0 0]], []⟩ 8 (by kernel_rfl) (by kernel_rfl) (by kernel_rfl) (by kernel_rfl)) ?_
  intro W base args ds gs before hval0 hW hcnd hsz0 _
  have hval : ∀ (j : Nat) t v, Try.f9.params[j]? = some t → args[j]? = some v → Value.okWide Try.prog W .any base t v := hval0
  have hW' := hW
  obtain ⟨p, q, hA0, hV, rfl, hfz, hnd⟩ := hW
  have hA : DataW.TrodAll enc Try.prog W 0 (fun _ => true) true Try.f9.params.toList args.toList ds p := hA0
  rw [Try.params9] at hA hval
  obtain ⟨v0, vs0, d0, ds0, p0, q0, hargs, rfl, rfl, h0, r0⟩ := trodAll_cons hA
  obtain ⟨rfl, rfl, rfl⟩ := trodAll_nil r0
  obtain rfl : args = #[v0] := by cases args; simp_all
  obtain ⟨rfl, rfl⟩ := trodVars_none hV
  have lt0 : ∀ x ∈ p0, x.block < W.heap.size := by obtain ⟨m, hm⟩ := h0; exact DataW.trod_lt m _ _ _ hm
  have k0 := h0
  obtain ⟨cs0, rfl, z0⟩ := okWide_struct Try.underlying45 (hval 0 45 v0 rfl rfl)
  have g0 := Lead.Got.of h0
  have c0 : Try.prog.cellsOf 45 = 2 := by kernel_rfl
  rw [c0] at z0
  obtain ⟨x0_0, x0_1, rfl⟩ := Lead.arr2 z0
  have g0_0 : Lead.Got Try.prog W 3 [x0_0] := Lead.Got.fld Try.underlying45 g0 0 rfl (n := 1) (by kernel_rfl)
  have g0_1 : Lead.Got Try.prog W 35 [x0_1] := Lead.Got.fld Try.underlying45 g0 1 rfl (n := 1) (by kernel_rfl)
  obtain ⟨n0_0, e0_0, w0_0⟩ := Lead.Got.int (k := .i64) Try.underlying3 g0_0
  obtain rfl : x0_0 = .int .i64 n0_0 := by simpa using e0_0
  obtain ⟨s0_1, xs0_1, rfl, _, i0_1, w0_1⟩ := Lead.Got.intss Try.underlying35 Try.underlying22 Try.underlying3 (by kernel_rfl) (by kernel_rfl) g0_1
  refine (walked (Lead.FnExactProofOf_spec i0_1 rfl)).mono fun e W' ⟨he, bel⟩ => ?_
  subst he
  exact ⟨_, rfl, _, _, _, [], _, [], hW', trodAll_mk1 (shut_bool Try.underlying4 _), (trodAll_cons_mk (Below.trod laidOut (by kernel_rfl) (of_decide_eq_true (by kernel_rfl)) k0 bel lt0) trodAll_mk0), rfl, bel.frame _, fun h => by cases h⟩
theorem over : Rows.fnExactProofOfRow.holds Try.pinned (OpenSpec.ofChange Rows.fnExactProofOfSpec) :=
  OpenClaim.holds_of_wide 9 Try.f9 rfl rfl rfl rfl rfl rfl rfl ⟨rfl, rfl, rfl, rfl, rfl⟩ rfl rfl rfl rfl rfl (by kernel_rfl) Try.func9 (by kernel_rfl)
    (of_decide_eq_true (by kernel_rfl)) (by unfold Func.isWrapper; first | (rw [if_pos (by decide +kernel)]; kernel_rfl) | (rw [if_neg (by decide +kernel)]; exact ⟨rfl, rfl⟩))
    (fun os started H enc _ => lifted os started H enc)
end Go.Proofs.Ythgleoodmgophaa.fnExactProofOf
namespace Go.Proofs.Ythgleoodmgophaa
/-- The row, under a short name, for the claim. -/
theorem fnExactProofOf_holds : Rows.FnExactProofOfSaid := fnExactProofOf.over
end Go.Proofs.Ythgleoodmgophaa
