/- Looking up nodes. -/
import Derived.Test.YthgleoodmgophaaC1
namespace Go.Lead
open Go
set_option linter.unusedSimpArgs false
set_option linter.unusedVariables false

theorem aeq_nd (a b c a' b' c' : Int) : aeq PR 3 T_impl_BddNode (.agg #[I a, I b, I c]) (.agg #[I a', I b', I c']) = some (a == a' && (b == b' && (c == c' && true))) := by kernel_rfl

theorem toList_loop (l : List UInt8) : ∀ (k i : Nat) (r : List UInt8), i + k = l.length → ByteArray.toList.loop ⟨l.toArray⟩ i r = r.reverse ++ l.drop i := by
  intro k
  induction k with
  | zero =>
    intro i r hi
    unfold ByteArray.toList.loop
    rw [if_neg (by simp [ByteArray.size]; omega), List.drop_eq_nil_of_le (by omega), List.append_nil]
  | succ k ih =>
    intro i r hi
    unfold ByteArray.toList.loop
    rw [if_pos (by simp [ByteArray.size]; omega), ih (i + 1) _ (by omega), List.drop_eq_getElem_cons (i := i) (by omega)]
    simp [ByteArray.get!, show i < l.length by omega]
theorem bytes_toList (l : List UInt8) : (⟨l.toArray⟩ : ByteArray).toList = l := by
  unfold ByteArray.toList
  rw [toList_loop l l.length 0 [] (by omega)]; rfl
end Go.Lead
