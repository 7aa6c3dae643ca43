/- FnBystander: What nobody looks at changes nothing. (P56) This text proves that the given law FnBystander returns true for every input: no condition is added. -/
import Derived.Test.YthfcbpocfmjefaaGreatRows
import Derived.Test.YthfcbpocfmjefaaGreatJoinFnBystander
import Derived.Test.YthfcbpocfmjefaaGreatZ4
import Derived.WalkKit
import Derived.ProofKit
import Derived.OpenShut
import Derived.ShutString
import Derived.ChangeOld
import Derived.Below
import Derived.SizedLaws
namespace Go.Proofs.YthfcbpocfmjefaaGreat.fnBystander
open Go.ChangeShapes Go.WideShapes Go.ChangeAt Go.RowKit
open Go.ChangeMaps (open_string shut_string)
set_option linter.unusedVariables false


theorem walked {n : FuncId} {args : Array Value} {W : World} (c : Lead.ACalls Tryz.prog n args (Lead.hW W) fun v _ => v = .bool true) :
    Calls Tryz.prog n args W fun e W' => e = .returned (.bool true) ∧ Below W.heap.size W W' := by
  refine (c.2 W.heap.size W W (Nat.le_refl _) (Lead.rel_hW W)).mono ?_
  rintro e W' ⟨v, h', rfl, r, rfl⟩
  exact ⟨rfl, r.below⟩

set_option maxRecDepth 100000 in
theorem lifted (os : Os) (started : os.Started) (H : Type) (enc : TypeId × Value → H) :
    ReturnsInHanded {} Tryz.checked os 6 .any (Rows.fnBystanderSpec.pre6 enc Tryz.prog Tryz.f6 Rows.fnBystanderRow.domain false) (Rows.fnBystanderSpec.post enc Tryz.prog Tryz.f6 false true false false) := by
  refine returnsInHanded_of_change_sized (C := Tryz.checked) own started (by kernel_rfl) Tryz.func6
    (ChangeSpec.witness6 (enc := enc) (C := Tryz.checked) false ⟨#[], #[.slice none 0 0, .slice none 0 0], []⟩ 8 (by kernel_rfl) (by kernel_rfl) (by kernel_rfl) (by kernel_rfl)) ?_
  intro W base args ds gs before hval0 hW hcnd hsz0 _
  have hval : ∀ (j : Nat) t v, Tryz.f6.params[j]? = some t → args[j]? = some v → Value.okWide Tryz.prog W .any base t v := hval0
  have hW' := hW
  obtain ⟨p, q, hA0, hV, rfl, hfz, hnd⟩ := hW
  have hA : DataW.TrodAll enc Tryz.prog W 0 (fun _ => true) true Tryz.f6.params.toList args.toList ds p := hA0
  rw [Tryz.params6] at hA hval
  obtain ⟨v0, vs0, d0, ds0, p0, q0, hargs, rfl, rfl, h0, r0⟩ := trodAll_cons hA
  obtain ⟨v1, vs1, d1, ds1, p1, q1, rfl, rfl, rfl, h1, r1⟩ := trodAll_cons r0
  obtain ⟨rfl, rfl, rfl⟩ := trodAll_nil r1
  obtain rfl : args = #[v0, v1] := by cases args; simp_all
  obtain ⟨rfl, rfl⟩ := trodVars_none hV
  have lt0 : ∀ x ∈ p0, x.block < W.heap.size := by obtain ⟨m, hm⟩ := h0; exact DataW.trod_lt m _ _ _ hm
  have k0 := h0
  obtain ⟨a0, len0, cap0, rfl⟩ := okWide_slice Tryz.underlying22 (hval 0 22 v0 rfl rfl)
  have g0 : Lead.Got Tryz.prog W 22 [.slice a0 len0 cap0] := Lead.Got.of h0
  obtain ⟨s0, xs0, e0, j0, i0⟩ := Lead.Got.bytes Tryz.underlying22 Tryz.underlying5 (by kernel_rfl) g0
  have lt1 : ∀ x ∈ p1, x.block < W.heap.size := by obtain ⟨m, hm⟩ := h1; exact DataW.trod_lt m _ _ _ hm
  have k1 := h1
  obtain ⟨a1, len1, cap1, rfl⟩ := okWide_slice Tryz.underlying22 (hval 1 22 v1 rfl rfl)
  have g1 : Lead.Got Tryz.prog W 22 [.slice a1 len1 cap1] := Lead.Got.of h1
  obtain ⟨s1, xs1, e1, j1, i1⟩ := Lead.Got.bytes Tryz.underlying22 Tryz.underlying5 (by kernel_rfl) g1
  have call : Lead.ACalls Tryz.prog 6 #[Value.slice a0 len0 cap0, Value.slice a1 len1 cap1] (Lead.hW W) fun v _ => v = .bool true := by
    rw [e0, e1]
    exact Lead.FnBystander_spec j0 i0 j1 i1 rfl
  refine (walked call).mono fun e W' ⟨he, bel⟩ => ?_
  subst he
  exact ⟨_, rfl, _, _, _, [], _, [], hW', trodAll_mk1 (shut_bool Tryz.underlying4 _), (trodAll_cons_mk (Below.trod laidOut (by kernel_rfl) (of_decide_eq_true (by kernel_rfl)) k0 bel lt0) (trodAll_cons_mk (Below.trod laidOut (by kernel_rfl) (of_decide_eq_true (by kernel_rfl)) k1 bel lt1) trodAll_mk0)), rfl, bel.frame _, fun h => by cases h⟩
theorem over : Rows.fnBystanderRow.holds Tryz.pinned (OpenSpec.ofChange Rows.fnBystanderSpec) :=
  OpenClaim.holds_of_wide 6 Tryz.f6 rfl rfl rfl rfl rfl rfl rfl ⟨rfl, rfl, rfl, rfl, rfl⟩ rfl rfl rfl rfl rfl (by kernel_rfl) Tryz.func6 joined
    (of_decide_eq_true (by kernel_rfl)) (by unfold Func.isWrapper; first | (rw [if_pos (by decide +kernel)]; kernel_rfl) | (rw [if_neg (by decide +kernel)]; exact ⟨rfl, rfl⟩))
    (fun os started H enc _ => lifted os started H enc)
end Go.Proofs.YthfcbpocfmjefaaGreat.fnBystander
namespace Go.Proofs.YthfcbpocfmjefaaGreat
/-- The row, under a short name, for the claim. -/
theorem fnBystander_holds : Rows.FnBystanderSaid := fnBystander.over
end Go.Proofs.YthfcbpocfmjefaaGreat
