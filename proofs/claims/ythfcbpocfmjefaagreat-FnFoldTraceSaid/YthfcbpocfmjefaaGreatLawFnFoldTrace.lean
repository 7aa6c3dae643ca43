/- FnFoldTrace: A trace is what it is when the model is folded. (P49) This text proves that the given law FnFoldTrace returns true for every input: no condition is added. -/
import Derived.Test.YthfcbpocfmjefaaGreatRows
import Derived.Test.YthfcbpocfmjefaaGreatJoinFnFoldTrace
import Derived.Test.YthfcbpocfmjefaaGreatZ4
import Derived.WalkKit
import Derived.ProofKit
import Derived.OpenShut
import Derived.ShutString
import Derived.ChangeOld
import Derived.Below
import Derived.SizedLaws
namespace Go.Proofs.YthfcbpocfmjefaaGreat.fnFoldTrace
open Go.ChangeShapes Go.WideShapes Go.ChangeAt Go.RowKit
open Go.ChangeMaps (open_string shut_string)
set_option linter.unusedVariables false


theorem walked {n : FuncId} {args : Array Value} {W : World} (c : Lead.ACalls Tryz.prog n args (Lead.hW W) fun v _ => v = .bool true) :
    Calls Tryz.prog n args W fun e W' => e = .returned (.bool true) ∧ Below W.heap.size W W' := by
  refine (c.2 W.heap.size W W (Nat.le_refl _) (Lead.rel_hW W)).mono ?_
  rintro e W' ⟨v, h', rfl, r, rfl⟩
  exact ⟨rfl, r.below⟩

set_option maxRecDepth 100000 in
theorem lifted (os : Os) (started : os.Started) (H : Type) (enc : TypeId × Value → H) :
    ReturnsInHanded {} Tryz.checked os 7 .any (Rows.fnFoldTraceSpec.pre6 enc Tryz.prog Tryz.f7 Rows.fnFoldTraceRow.domain false) (Rows.fnFoldTraceSpec.post enc Tryz.prog Tryz.f7 false true false false) := by
  refine returnsInHanded_of_change_sized (C := Tryz.checked) own started (by kernel_rfl) Tryz.func7
    (ChangeSpec.witness6 (enc := enc) (C := Tryz.checked) false ⟨#[], #[.slice none 0 0], []⟩ 8 (by kernel_rfl) (by kernel_rfl) (by kernel_rfl) (by kernel_rfl)) ?_
  intro W base args ds gs before hval0 hW hcnd hsz0 _
  have hval : ∀ (j : Nat) t v, Tryz.f7.params[j]? = some t → args[j]? = some v → Value.okWide Tryz.prog W .any base t v := hval0
  have hW' := hW
  obtain ⟨p, q, hA0, hV, rfl, hfz, hnd⟩ := hW
  have hA : DataW.TrodAll enc Tryz.prog W 0 (fun _ => true) true Tryz.f7.params.toList args.toList ds p := hA0
  rw [Tryz.params7] at hA hval
  obtain ⟨v0, vs0, d0, ds0, p0, q0, hargs, rfl, rfl, h0, r0⟩ := trodAll_cons hA
  obtain ⟨rfl, rfl, rfl⟩ := trodAll_nil r0
  obtain rfl : args = #[v0] := by cases args; simp_all
  obtain ⟨rfl, rfl⟩ := trodVars_none hV
  have lt0 : ∀ x ∈ p0, x.block < W.heap.size := by obtain ⟨m, hm⟩ := h0; exact DataW.trod_lt m _ _ _ hm
  have k0 := h0
  obtain ⟨a0, len0, cap0, rfl⟩ := okWide_slice Tryz.underlying22 (hval 0 22 v0 rfl rfl)
  have g0 : Lead.Got Tryz.prog W 22 [.slice a0 len0 cap0] := Lead.Got.of h0
  obtain ⟨s0, xs0, e0, j0, i0⟩ := Lead.Got.bytes Tryz.underlying22 Tryz.underlying5 (by kernel_rfl) g0
  have call : Lead.ACalls Tryz.prog 7 #[Value.slice a0 len0 cap0] (Lead.hW W) fun v _ => v = .bool true := by
    rw [e0]
    exact Lead.FnFoldTrace_spec j0 i0 rfl
  refine (walked call).mono fun e W' ⟨he, bel⟩ => ?_
  subst he
  exact ⟨_, rfl, _, _, _, [], _, [], hW', trodAll_mk1 (shut_bool Tryz.underlying4 _), (trodAll_cons_mk (Below.trod laidOut (by kernel_rfl) (of_decide_eq_true (by kernel_rfl)) k0 bel lt0) trodAll_mk0), rfl, bel.frame _, fun h => by cases h⟩
theorem over : Rows.fnFoldTraceRow.holds Tryz.pinned (OpenSpec.ofChange Rows.fnFoldTraceSpec) :=
  OpenClaim.holds_of_wide 7 Tryz.f7 rfl rfl rfl rfl rfl rfl rfl ⟨rfl, rfl, rfl, rfl, rfl⟩ rfl rfl rfl rfl rfl (by kernel_rfl) Tryz.func7 joined
    (of_decide_eq_true (by kernel_rfl)) (by unfold Func.isWrapper; first | (rw [if_pos (by decide +kernel)]; kernel_rfl) | (rw [if_neg (by decide +kernel)]; exact ⟨rfl, rfl⟩))
    (fun os started H enc _ => lifted os started H enc)
end Go.Proofs.YthfcbpocfmjefaaGreat.fnFoldTrace
namespace Go.Proofs.YthfcbpocfmjefaaGreat
/-- The row, under a short name, for the claim. -/
theorem fnFoldTrace_holds : Rows.FnFoldTraceSaid := fnFoldTrace.over
end Go.Proofs.YthfcbpocfmjefaaGreat
