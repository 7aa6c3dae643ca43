/- The walks of the functions, part 1, written by a program: what the abstract walk of each body comes to. No statement is proved here. -/
import Derived.Test.YthcnlmahlmndhaaFn
set_option maxRecDepth 100000
set_option linter.unusedVariables false
namespace Go.Lead
open Go Go.Proofs

def A_laws_eqBddNodeS : Ann := fun r => if r = 4 then [(0, .slice 0), (1, .slice 0), (5, .int .i64)] else []
def F_laws_eqBddNodeS (s1 : Sl) (s2 : Sl) (h : Hp) (R : Value → Hp → Prop) : Prop :=
  bsplit (((s1.n : Nat) : Int) != ((s2.n : Nat) : Int)) (R (.bool false) h) (ALoop (fun vs10 h9 next11 => ∃ (s12 : Sl) (s13 : Sl) (x14 : Int), vs10 = [s12.v, s13.v, (I x14)] ∧ (bsplit (decide (x14 < ((s12.n : Nat) : Int))) (∃ b19 o20 : Nat, s12.a = some (Addr.mk b19 o20 none) ∧ (0 : Int) ≤ x14 ∧ x14 < ((s12.n : Nat) : Int) ∧ (∃ b21 o22 : Nat, s13.a = some (Addr.mk b21 o22 none) ∧ (0 : Int) ≤ x14 ∧ x14 < ((s13.n : Nat) : Int) ∧ (∃ (x23 : Int), Hp.cell h9 b19 (o20 + Int.toNat x14 * 3) = some (I x23) ∧ (∃ (x24 : Int), Hp.cell h9 b19 ((o20 + Int.toNat x14 * 3) + 1) = some (I x24) ∧ (∃ (x25 : Int), Hp.cell h9 b19 ((o20 + Int.toNat x14 * 3) + 2) = some (I x25) ∧ (∃ (x26 : Int), Hp.cell h9 b21 (o22 + Int.toNat x14 * 3) = some (I x26) ∧ (∃ (x27 : Int), Hp.cell h9 b21 ((o22 + Int.toNat x14 * 3) + 1) = some (I x27) ∧ (∃ (x28 : Int), Hp.cell h9 b21 ((o22 + Int.toNat x14 * 3) + 2) = some (I x28) ∧ (c_laws_eqBddNode #[(.agg #[(I x23), (I x24), (I x25)]), (.agg #[(I x26), (I x27), (I x28)])] h9 fun v29 h30 => ∃ (c31 : Bool), v29 = (.bool c31) ∧ (bsplit (!c31) (R (.bool false) h30) (next11 [s12.v, s13.v, (I (W (x14 + 1)))] h30))))))))))) (R (.bool true) h9))) [s1.v, s2.v, (I 0)] h)
theorem E_laws_eqBddNodeS (s1 : Sl) (s2 : Sl) (h : Hp) (R : Value → Hp → Prop) : ABd PR Try.f42 A_laws_eqBddNodeS #[s1.v, s2.v] h R = F_laws_eqBddNodeS s1 s2 h R := by kernel_rfl
theorem O_laws_eqBddNodeS : okF PR 42 = true := by kernel_rfl
theorem B_laws_eqBddNodeS : Try.f42.body.isSome = true := by kernel_rfl
theorem R_laws_eqBddNodeS {s1 : Sl} {s2 : Sl} {h : Hp} {R : Value → Hp → Prop} (e : F_laws_eqBddNodeS s1 s2 h R) : c_laws_eqBddNodeS #[s1.v, s2.v] h R :=
  acalls mixed Try.func42 B_laws_eqBddNodeS O_laws_eqBddNodeS A_laws_eqBddNodeS (by kernel_rfl) ((E_laws_eqBddNodeS s1 s2 h R).mpr e)

def A_laws_eqBdd : Ann := fun r => []
def F_laws_eqBdd (x1 : Int) (s2 : Sl) (x3 : Int) (x4 : Int) (s5 : Sl) (x6 : Int) (h : Hp) (R : Value → Hp → Prop) : Prop :=
  ∀ b8 : Nat, h b8 = none → setH (h.row b8 [(I x1), s2.v, (I x3)] 3) fun h9 => ∀ b10 : Nat, h9 b10 = none → setH (h9.row b10 [(I x4), s5.v, (I x6)] 3) fun h11 => ∃ (x13 : Int), Hp.cell h11 b8 0 = some (I x13) ∧ (∃ (x14 : Int), Hp.cell h11 b10 0 = some (I x14) ∧ (bsplit (x13 != x14) (R (.bool false) h11) (∃ (s18 : Sl), Hp.cell h11 b8 1 = some s18.v ∧ (∃ (s19 : Sl), Hp.cell h11 b10 1 = some s19.v ∧ (c_laws_eqBddNodeS #[s18.v, s19.v] h11 fun v20 h21 => ∃ (c22 : Bool), v20 = (.bool c22) ∧ (bsplit (!c22) (R (.bool false) h21) (∃ (x26 : Int), Hp.cell h21 b8 2 = some (I x26) ∧ (∃ (x27 : Int), Hp.cell h21 b10 2 = some (I x27) ∧ (bsplit (x26 != x27) (R (.bool false) h21) (R (.bool true) h21))))))))))
theorem E_laws_eqBdd (x1 : Int) (s2 : Sl) (x3 : Int) (x4 : Int) (s5 : Sl) (x6 : Int) (h : Hp) (R : Value → Hp → Prop) : ABd PR Try.f16 A_laws_eqBdd #[(.agg #[(I x1), s2.v, (I x3)]), (.agg #[(I x4), s5.v, (I x6)])] h R = F_laws_eqBdd x1 s2 x3 x4 s5 x6 h R := by kernel_rfl
theorem O_laws_eqBdd : okF PR 16 = true := by kernel_rfl
theorem B_laws_eqBdd : Try.f16.body.isSome = true := by kernel_rfl
theorem R_laws_eqBdd {x1 : Int} {s2 : Sl} {x3 : Int} {x4 : Int} {s5 : Sl} {x6 : Int} {h : Hp} {R : Value → Hp → Prop} (e : F_laws_eqBdd x1 s2 x3 x4 s5 x6 h R) : c_laws_eqBdd #[(.agg #[(I x1), s2.v, (I x3)]), (.agg #[(I x4), s5.v, (I x6)])] h R :=
  acalls mixed Try.func16 B_laws_eqBdd O_laws_eqBdd A_laws_eqBdd (by kernel_rfl) ((E_laws_eqBdd x1 s2 x3 x4 s5 x6 h R).mpr e)

def A_laws_markBddNodeS : Ann := fun r => if r = 2 then [(0, .slice 0), (1, .int .i64), (5, .int .i64)] else []
def F_laws_markBddNodeS (s1 : Sl) (x2 : Int) (h : Hp) (R : Value → Hp → Prop) : Prop :=
  ALoop (fun vs7 h6 next8 => ∃ (s9 : Sl) (x10 : Int) (x11 : Int), vs7 = [s9.v, (I x10), (I x11)] ∧ (bsplit (decide (x11 < ((s9.n : Nat) : Int))) (∃ b16 o17 : Nat, s9.a = some (Addr.mk b16 o17 none) ∧ (0 : Int) ≤ x11 ∧ x11 < ((s9.n : Nat) : Int) ∧ (∃ (cs18 : List Value) (z19 : Nat), h6 b16 = some (.inl ⟨cs18, z19, false⟩) ∧ (o17 + Int.toNat x11 * 3) + 1 ≤ List.length cs18 ∧ setH (h6.row b16 (lset cs18 (o17 + Int.toNat x11 * 3) [(I x10)]) z19) fun h20 => ∃ b23 o24 : Nat, s9.a = some (Addr.mk b23 o24 none) ∧ (0 : Int) ≤ x11 ∧ x11 < ((s9.n : Nat) : Int) ∧ (∃ (cs25 : List Value) (z26 : Nat), h20 b23 = some (.inl ⟨cs25, z26, false⟩) ∧ ((o24 + Int.toNat x11 * 3) + 1) + 1 ≤ List.length cs25 ∧ setH (h20.row b23 (lset cs25 ((o24 + Int.toNat x11 * 3) + 1) [(I (W (x10 + 1)))]) z26) fun h27 => ∃ b30 o31 : Nat, s9.a = some (Addr.mk b30 o31 none) ∧ (0 : Int) ≤ x11 ∧ x11 < ((s9.n : Nat) : Int) ∧ (∃ (cs32 : List Value) (z33 : Nat), h27 b30 = some (.inl ⟨cs32, z33, false⟩) ∧ ((o31 + Int.toNat x11 * 3) + 2) + 1 ≤ List.length cs32 ∧ setH (h27.row b30 (lset cs32 ((o31 + Int.toNat x11 * 3) + 2) [(I (W ((W (x10 + 1)) + 1)))]) z33) fun h34 => next8 [s9.v, (I (W ((W ((W (x10 + 1)) + 1)) + 1))), (I (W (x11 + 1)))] h34)))) (R (I x10) h6))) [s1.v, (I x2), (I 0)] h
theorem E_laws_markBddNodeS (s1 : Sl) (x2 : Int) (h : Hp) (R : Value → Hp → Prop) : ABd PR Try.f43 A_laws_markBddNodeS #[s1.v, (I x2)] h R = F_laws_markBddNodeS s1 x2 h R := by kernel_rfl
theorem O_laws_markBddNodeS : okF PR 43 = true := by kernel_rfl
theorem B_laws_markBddNodeS : Try.f43.body.isSome = true := by kernel_rfl
theorem R_laws_markBddNodeS {s1 : Sl} {x2 : Int} {h : Hp} {R : Value → Hp → Prop} (e : F_laws_markBddNodeS s1 x2 h R) : c_laws_markBddNodeS #[s1.v, (I x2)] h R :=
  acalls mixed Try.func43 B_laws_markBddNodeS O_laws_markBddNodeS A_laws_markBddNodeS (by kernel_rfl) ((E_laws_markBddNodeS s1 x2 h R).mpr e)

def A_laws_markBdd : Ann := fun r => []
def F_laws_markBdd (x1 : Int) (s2 : Sl) (x3 : Int) (x4 : Int) (h : Hp) (R : Value → Hp → Prop) : Prop :=
  ∀ b6 : Nat, h b6 = none → setH (h.row b6 [(I x1), s2.v, (I x3)] 3) fun h7 => ∃ (s9 : Sl), Hp.cell h7 b6 1 = some s9.v ∧ (c_laws_markBddNodeS #[s9.v, (I x4)] h7 fun v10 h11 => ∃ (x12 : Int), v10 = (I x12) ∧ (R (I x12) h11))
theorem E_laws_markBdd (x1 : Int) (s2 : Sl) (x3 : Int) (x4 : Int) (h : Hp) (R : Value → Hp → Prop) : ABd PR Try.f17 A_laws_markBdd #[(.agg #[(I x1), s2.v, (I x3)]), (I x4)] h R = F_laws_markBdd x1 s2 x3 x4 h R := by kernel_rfl
theorem O_laws_markBdd : okF PR 17 = true := by kernel_rfl
theorem B_laws_markBdd : Try.f17.body.isSome = true := by kernel_rfl
theorem R_laws_markBdd {x1 : Int} {s2 : Sl} {x3 : Int} {x4 : Int} {h : Hp} {R : Value → Hp → Prop} (e : F_laws_markBdd x1 s2 x3 x4 h R) : c_laws_markBdd #[(.agg #[(I x1), s2.v, (I x3)]), (I x4)] h R :=
  acalls mixed Try.func17 B_laws_markBdd O_laws_markBdd A_laws_markBdd (by kernel_rfl) ((E_laws_markBdd x1 s2 x3 x4 h R).mpr e)

def A_laws_heldBddNodeS : Ann := fun r => if r = 2 then [(0, .slice 0), (1, .int .i64), (5, .int .i64)] else []
def F_laws_heldBddNodeS (s1 : Sl) (x2 : Int) (h : Hp) (R : Value → Hp → Prop) : Prop :=
  ALoop (fun vs7 h6 next8 => ∃ (s9 : Sl) (x10 : Int) (x11 : Int), vs7 = [s9.v, (I x10), (I x11)] ∧ (bsplit (decide (x11 < ((s9.n : Nat) : Int))) (∃ b16 o17 : Nat, s9.a = some (Addr.mk b16 o17 none) ∧ (0 : Int) ≤ x11 ∧ x11 < ((s9.n : Nat) : Int) ∧ (∃ (x18 : Int), Hp.cell h6 b16 (o17 + Int.toNat x11 * 3) = some (I x18) ∧ (bsplit (x18 != x10) (R (I (-1)) h6) (∃ b23 o24 : Nat, s9.a = some (Addr.mk b23 o24 none) ∧ (0 : Int) ≤ x11 ∧ x11 < ((s9.n : Nat) : Int) ∧ (∃ (x25 : Int), Hp.cell h6 b23 ((o24 + Int.toNat x11 * 3) + 1) = some (I x25) ∧ (bsplit (x25 != (W (x10 + 1))) (R (I (-1)) h6) (∃ b30 o31 : Nat, s9.a = some (Addr.mk b30 o31 none) ∧ (0 : Int) ≤ x11 ∧ x11 < ((s9.n : Nat) : Int) ∧ (∃ (x32 : Int), Hp.cell h6 b30 ((o31 + Int.toNat x11 * 3) + 2) = some (I x32) ∧ (bsplit (x32 != (W ((W (x10 + 1)) + 1))) (R (I (-1)) h6) (next8 [s9.v, (I (W ((W ((W (x10 + 1)) + 1)) + 1))), (I (W (x11 + 1)))] h6)))))))))) (R (I x10) h6))) [s1.v, (I x2), (I 0)] h
theorem E_laws_heldBddNodeS (s1 : Sl) (x2 : Int) (h : Hp) (R : Value → Hp → Prop) : ABd PR Try.f44 A_laws_heldBddNodeS #[s1.v, (I x2)] h R = F_laws_heldBddNodeS s1 x2 h R := by kernel_rfl
theorem O_laws_heldBddNodeS : okF PR 44 = true := by kernel_rfl
theorem B_laws_heldBddNodeS : Try.f44.body.isSome = true := by kernel_rfl
theorem R_laws_heldBddNodeS {s1 : Sl} {x2 : Int} {h : Hp} {R : Value → Hp → Prop} (e : F_laws_heldBddNodeS s1 x2 h R) : c_laws_heldBddNodeS #[s1.v, (I x2)] h R :=
  acalls mixed Try.func44 B_laws_heldBddNodeS O_laws_heldBddNodeS A_laws_heldBddNodeS (by kernel_rfl) ((E_laws_heldBddNodeS s1 x2 h R).mpr e)

def A_laws_heldBdd : Ann := fun r => []
def F_laws_heldBdd (x1 : Int) (s2 : Sl) (x3 : Int) (x4 : Int) (h : Hp) (R : Value → Hp → Prop) : Prop :=
  ∀ b6 : Nat, h b6 = none → setH (h.row b6 [(I x1), s2.v, (I x3)] 3) fun h7 => ∃ (s9 : Sl), Hp.cell h7 b6 1 = some s9.v ∧ (c_laws_heldBddNodeS #[s9.v, (I x4)] h7 fun v10 h11 => ∃ (x12 : Int), v10 = (I x12) ∧ (bsplit (decide (x12 < 0)) (R (I (-1)) h11) (R (I x12) h11)))
theorem E_laws_heldBdd (x1 : Int) (s2 : Sl) (x3 : Int) (x4 : Int) (h : Hp) (R : Value → Hp → Prop) : ABd PR Try.f18 A_laws_heldBdd #[(.agg #[(I x1), s2.v, (I x3)]), (I x4)] h R = F_laws_heldBdd x1 s2 x3 x4 h R := by kernel_rfl
theorem O_laws_heldBdd : okF PR 18 = true := by kernel_rfl
theorem B_laws_heldBdd : Try.f18.body.isSome = true := by kernel_rfl
theorem R_laws_heldBdd {x1 : Int} {s2 : Sl} {x3 : Int} {x4 : Int} {h : Hp} {R : Value → Hp → Prop} (e : F_laws_heldBdd x1 s2 x3 x4 h R) : c_laws_heldBdd #[(.agg #[(I x1), s2.v, (I x3)]), (I x4)] h R :=
  acalls mixed Try.func18 B_laws_heldBdd O_laws_heldBdd A_laws_heldBdd (by kernel_rfl) ((E_laws_heldBdd x1 s2 x3 x4 h R).mpr e)

def A_laws_FnExactBddVar : Ann := fun r => []
def F_laws_FnExactBddVar (x1 : Int) (x2 : Int) (h : Hp) (R : Value → Hp → Prop) : Prop :=
  c_spec_BddVar #[(I x1), (I x2)] h fun v5 h6 => ∃ (x7 : Int) (s8 : Sl) (x9 : Int) (c10 : Bool), v5 = (.tuple #[(.agg #[(I x7), s8.v, (I x9)]), (.bool c10)]) ∧ (∀ b11 : Nat, h6 b11 = none → setH (h6.row b11 [(I 0), (.slice none 0 0), (I 0)] 3) fun h12 => ∃ (cs13 : List Value) (z14 : Nat), h12 b11 = some (.inl ⟨cs13, z14, false⟩) ∧ 0 + 3 ≤ List.length cs13 ∧ setH (h12.row b11 (lset cs13 0 [(I x7), s8.v, (I x9)]) z14) fun h15 => c_impl_BddVar #[(I x1), (I x2)] h15 fun v17 h18 => ∃ (x19 : Int) (s20 : Sl) (x21 : Int) (c22 : Bool), v17 = (.tuple #[(.agg #[(I x19), s20.v, (I x21)]), (.bool c22)]) ∧ (∀ b23 : Nat, h18 b23 = none → setH (h18.row b23 [(I 0), (.slice none 0 0), (I 0)] 3) fun h24 => ∃ (cs25 : List Value) (z26 : Nat), h24 b23 = some (.inl ⟨cs25, z26, false⟩) ∧ 0 + 3 ≤ List.length cs25 ∧ setH (h24.row b23 (lset cs25 0 [(I x19), s20.v, (I x21)]) z26) fun h27 => joinP (fun (c38 : Bool) (h39 : Hp) => bsplit c38 (R (.bool false) h39) (∃ (x44 : Int), Hp.cell h39 b23 0 = some (I x44) ∧ (∃ (s45 : Sl), Hp.cell h39 b23 1 = some s45.v ∧ (∃ (x46 : Int), Hp.cell h39 b23 2 = some (I x46) ∧ (c_laws_markBdd #[(.agg #[(I x44), s45.v, (I x46)]), (I 1)] h39 fun v47 h48 => ∃ (x49 : Int), v47 = (I x49) ∧ (∃ (x52 : Int), Hp.cell h48 b23 0 = some (I x52) ∧ (∃ (s53 : Sl), Hp.cell h48 b23 1 = some s53.v ∧ (∃ (x54 : Int), Hp.cell h48 b23 2 = some (I x54) ∧ (c_laws_heldBdd #[(.agg #[(I x52), s53.v, (I x54)]), (I 1)] h48 fun v55 h56 => ∃ (x57 : Int), v55 = (I x57) ∧ (bsplit (decide (x57 < 0)) (R (.bool false) h56) (bsplit (x57 != x49) (R (.bool false) h56) (c_impl_BddVar #[(I x1), (I x2)] h56 fun v65 h66 => ∃ (x67 : Int) (s68 : Sl) (x69 : Int) (c70 : Bool), v65 = (.tuple #[(.agg #[(I x67), s68.v, (I x69)]), (.bool c70)]) ∧ (∀ b71 : Nat, h66 b71 = none → setH (h66.row b71 [(I 0), (.slice none 0 0), (I 0)] 3) fun h72 => ∃ (cs73 : List Value) (z74 : Nat), h72 b71 = some (.inl ⟨cs73, z74, false⟩) ∧ 0 + 3 ≤ List.length cs73 ∧ setH (h72.row b71 (lset cs73 0 [(I x67), s68.v, (I x69)]) z74) fun h75 => joinP (fun (c86 : Bool) (h87 : Hp) => bsplit c86 (R (.bool false) h87) (∃ (x92 : Int), Hp.cell h87 b23 0 = some (I x92) ∧ (∃ (s93 : Sl), Hp.cell h87 b23 1 = some s93.v ∧ (∃ (x94 : Int), Hp.cell h87 b23 2 = some (I x94) ∧ (c_laws_heldBdd #[(.agg #[(I x92), s93.v, (I x94)]), (I 1)] h87 fun v95 h96 => ∃ (x97 : Int), v95 = (I x97) ∧ (bsplit (decide (x97 < 0)) (R (.bool false) h96) (bsplit (x97 != x49) (R (.bool false) h96) (R (.bool true) h96)))))))) fun J105 => ∃ (x77 : Int), Hp.cell h75 b71 0 = some (I x77) ∧ (∃ (s78 : Sl), Hp.cell h75 b71 1 = some s78.v ∧ (∃ (x79 : Int), Hp.cell h75 b71 2 = some (I x79) ∧ (∃ (x80 : Int), Hp.cell h75 b11 0 = some (I x80) ∧ (∃ (s81 : Sl), Hp.cell h75 b11 1 = some s81.v ∧ (∃ (x82 : Int), Hp.cell h75 b11 2 = some (I x82) ∧ (c_laws_eqBdd #[(.agg #[(I x77), s78.v, (I x79)]), (.agg #[(I x80), s81.v, (I x82)])] h75 fun v83 h84 => ∃ (c85 : Bool), v83 = (.bool c85) ∧ (bsplit (!c85) (J105 true h84) (J105 (!(c70 == c10)) h84))))))))))))))))))))) fun J106 => ∃ (x29 : Int), Hp.cell h27 b23 0 = some (I x29) ∧ (∃ (s30 : Sl), Hp.cell h27 b23 1 = some s30.v ∧ (∃ (x31 : Int), Hp.cell h27 b23 2 = some (I x31) ∧ (∃ (x32 : Int), Hp.cell h27 b11 0 = some (I x32) ∧ (∃ (s33 : Sl), Hp.cell h27 b11 1 = some s33.v ∧ (∃ (x34 : Int), Hp.cell h27 b11 2 = some (I x34) ∧ (c_laws_eqBdd #[(.agg #[(I x29), s30.v, (I x31)]), (.agg #[(I x32), s33.v, (I x34)])] h27 fun v35 h36 => ∃ (c37 : Bool), v35 = (.bool c37) ∧ (bsplit (!c37) (J106 true h36) (J106 (!(c22 == c10)) h36))))))))))
theorem E_laws_FnExactBddVar (x1 : Int) (x2 : Int) (h : Hp) (R : Value → Hp → Prop) : ABd PR Try.f4 A_laws_FnExactBddVar #[(I x1), (I x2)] h R = F_laws_FnExactBddVar x1 x2 h R := by kernel_rfl
theorem O_laws_FnExactBddVar : okF PR 4 = true := by kernel_rfl
theorem B_laws_FnExactBddVar : Try.f4.body.isSome = true := by kernel_rfl
theorem R_laws_FnExactBddVar {x1 : Int} {x2 : Int} {h : Hp} {R : Value → Hp → Prop} (e : F_laws_FnExactBddVar x1 x2 h R) : c_laws_FnExactBddVar #[(I x1), (I x2)] h R :=
  acalls mixed Try.func4 B_laws_FnExactBddVar O_laws_FnExactBddVar A_laws_FnExactBddVar (by kernel_rfl) ((E_laws_FnExactBddVar x1 x2 h R).mpr e)

def A_spec_l1Yes : Ann := fun r => []
def F_spec_l1Yes (c1 : Bool) (h : Hp) (R : Value → Hp → Prop) : Prop :=
  bsplit c1 (R (I 1) h) (R (I 0) h)
theorem E_spec_l1Yes (c1 : Bool) (h : Hp) (R : Value → Hp → Prop) : ABd PR Try.f45 A_spec_l1Yes #[(.bool c1)] h R = F_spec_l1Yes c1 h R := by kernel_rfl
theorem O_spec_l1Yes : okF PR 45 = true := by kernel_rfl
theorem B_spec_l1Yes : Try.f45.body.isSome = true := by kernel_rfl
theorem R_spec_l1Yes {c1 : Bool} {h : Hp} {R : Value → Hp → Prop} (e : F_spec_l1Yes c1 h R) : c_spec_l1Yes #[(.bool c1)] h R :=
  acalls mixed Try.func45 B_spec_l1Yes O_spec_l1Yes A_spec_l1Yes (by kernel_rfl) ((E_spec_l1Yes c1 h R).mpr e)

def A_spec_BddConst : Ann := fun r => []
def F_spec_BddConst (x1 : Int) (c2 : Bool) (h : Hp) (R : Value → Hp → Prop) : Prop :=
  ∀ b4 : Nat, h b4 = none → setH (h.row b4 [(I 0), (.slice none 0 0), (I 0)] 3) fun h5 => c_spec_l7Vars #[(I x1)] h5 fun v7 h8 => ∃ (c9 : Bool), v7 = (.bool c9) ∧ (bsplit (!c9) (∃ (cs12 : List Value) (z13 : Nat), h8 b4 = some (.inl ⟨cs12, z13, false⟩) ∧ 0 + 3 ≤ List.length cs12 ∧ setH (h8.row b4 (lset cs12 0 [(I 0), (.slice none 0 0), (I 0)]) z13) fun h14 => ∃ (x15 : Int), Hp.cell h14 b4 0 = some (I x15) ∧ (∃ (s16 : Sl), Hp.cell h14 b4 1 = some s16.v ∧ (∃ (x17 : Int), Hp.cell h14 b4 2 = some (I x17) ∧ (R (.tuple #[(.agg #[(I x15), s16.v, (I x17)]), (.bool false)]) h14)))) (c_spec_l1Yes #[(.bool c2)] h8 fun v19 h20 => ∃ (x21 : Int), v19 = (I x21) ∧ (∃ (cs22 : List Value) (z23 : Nat), h20 b4 = some (.inl ⟨cs22, z23, false⟩) ∧ 0 + 3 ≤ List.length cs22 ∧ setH (h20.row b4 (lset cs22 0 [(I x1), (.slice none 0 0), (I x21)]) z23) fun h24 => ∃ (x25 : Int), Hp.cell h24 b4 0 = some (I x25) ∧ (∃ (s26 : Sl), Hp.cell h24 b4 1 = some s26.v ∧ (∃ (x27 : Int), Hp.cell h24 b4 2 = some (I x27) ∧ (R (.tuple #[(.agg #[(I x25), s26.v, (I x27)]), (.bool true)]) h24))))))
theorem E_spec_BddConst (x1 : Int) (c2 : Bool) (h : Hp) (R : Value → Hp → Prop) : ABd PR Try.f19 A_spec_BddConst #[(I x1), (.bool c2)] h R = F_spec_BddConst x1 c2 h R := by kernel_rfl
theorem O_spec_BddConst : okF PR 19 = true := by kernel_rfl
theorem B_spec_BddConst : Try.f19.body.isSome = true := by kernel_rfl
theorem R_spec_BddConst {x1 : Int} {c2 : Bool} {h : Hp} {R : Value → Hp → Prop} (e : F_spec_BddConst x1 c2 h R) : c_spec_BddConst #[(I x1), (.bool c2)] h R :=
  acalls mixed Try.func19 B_spec_BddConst O_spec_BddConst A_spec_BddConst (by kernel_rfl) ((E_spec_BddConst x1 c2 h R).mpr e)

def A_impl_BddConst_d1 : Ann := fun r => []
def F_impl_BddConst_d1 (x1 : Int) (b2 o3 : Nat) (h : Hp) (R : Value → Hp → Prop) : Prop :=
  ∃ (c6 : Bool), Hp.cell h b2 o3 = some (.bool c6) ∧ (R (.bool c6) h)
theorem E_impl_BddConst_d1 (x1 : Int) (b2 o3 : Nat) (h : Hp) (R : Value → Hp → Prop) : ABd PR Try.f46 A_impl_BddConst_d1 #[(I x1), (.pointer (some (Addr.mk b2 o3 none)))] h R = F_impl_BddConst_d1 x1 b2 o3 h R := by kernel_rfl
theorem O_impl_BddConst_d1 : okF PR 46 = true := by kernel_rfl
theorem B_impl_BddConst_d1 : Try.f46.body.isSome = true := by kernel_rfl
theorem R_impl_BddConst_d1 {x1 : Int} {b2 o3 : Nat} {h : Hp} {R : Value → Hp → Prop} (e : F_impl_BddConst_d1 x1 b2 o3 h R) : c_impl_BddConst_d1 #[(I x1), (.pointer (some (Addr.mk b2 o3 none)))] h R :=
  acalls mixed Try.func46 B_impl_BddConst_d1 O_impl_BddConst_d1 A_impl_BddConst_d1 (by kernel_rfl) ((E_impl_BddConst_d1 x1 b2 o3 h R).mpr e)

def A_impl_BddConst : Ann := fun r => []
def F_impl_BddConst (x1 : Int) (c2 : Bool) (h : Hp) (R : Value → Hp → Prop) : Prop :=
  ∀ b4 : Nat, h b4 = none → setH (h.row b4 [(.bool c2)] 1) fun h5 => ∀ b6 : Nat, h5 b6 = none → setH (h5.row b6 [(I 0), (.slice none 0 0), (I 0)] 3) fun h7 => c_impl_told #[(I x1), (.func (.func i_impl_BddConst_d1) #[] #[(.pointer (some (Addr.mk b4 0 none)))])] h7 fun v9 h10 => ∃ (x11 : Int) (s12 : Sl) (x13 : Int) (c14 : Bool), v9 = (.tuple #[(.agg #[(I x11), s12.v, (I x13)]), (.bool c14)]) ∧ (∃ (cs15 : List Value) (z16 : Nat), h10 b6 = some (.inl ⟨cs15, z16, false⟩) ∧ 0 + 3 ≤ List.length cs15 ∧ setH (h10.row b6 (lset cs15 0 [(I x11), s12.v, (I x13)]) z16) fun h17 => ∃ (x18 : Int), Hp.cell h17 b6 0 = some (I x18) ∧ (∃ (s19 : Sl), Hp.cell h17 b6 1 = some s19.v ∧ (∃ (x20 : Int), Hp.cell h17 b6 2 = some (I x20) ∧ (R (.tuple #[(.agg #[(I x18), s19.v, (I x20)]), (.bool c14)]) h17))))
theorem E_impl_BddConst (x1 : Int) (c2 : Bool) (h : Hp) (R : Value → Hp → Prop) : ABd PR Try.f20 A_impl_BddConst #[(I x1), (.bool c2)] h R = F_impl_BddConst x1 c2 h R := by kernel_rfl
theorem O_impl_BddConst : okF PR 20 = true := by kernel_rfl
theorem B_impl_BddConst : Try.f20.body.isSome = true := by kernel_rfl
theorem R_impl_BddConst {x1 : Int} {c2 : Bool} {h : Hp} {R : Value → Hp → Prop} (e : F_impl_BddConst x1 c2 h R) : c_impl_BddConst #[(I x1), (.bool c2)] h R :=
  acalls mixed Try.func20 B_impl_BddConst O_impl_BddConst A_impl_BddConst (by kernel_rfl) ((E_impl_BddConst x1 c2 h R).mpr e)

def A_laws_FnExactBddConst : Ann := fun r => []
def F_laws_FnExactBddConst (x1 : Int) (c2 : Bool) (h : Hp) (R : Value → Hp → Prop) : Prop :=
  c_spec_BddConst #[(I x1), (.bool c2)] h fun v5 h6 => ∃ (x7 : Int) (s8 : Sl) (x9 : Int) (c10 : Bool), v5 = (.tuple #[(.agg #[(I x7), s8.v, (I x9)]), (.bool c10)]) ∧ (∀ b11 : Nat, h6 b11 = none → setH (h6.row b11 [(I 0), (.slice none 0 0), (I 0)] 3) fun h12 => ∃ (cs13 : List Value) (z14 : Nat), h12 b11 = some (.inl ⟨cs13, z14, false⟩) ∧ 0 + 3 ≤ List.length cs13 ∧ setH (h12.row b11 (lset cs13 0 [(I x7), s8.v, (I x9)]) z14) fun h15 => c_impl_BddConst #[(I x1), (.bool c2)] h15 fun v17 h18 => ∃ (x19 : Int) (s20 : Sl) (x21 : Int) (c22 : Bool), v17 = (.tuple #[(.agg #[(I x19), s20.v, (I x21)]), (.bool c22)]) ∧ (∀ b23 : Nat, h18 b23 = none → setH (h18.row b23 [(I 0), (.slice none 0 0), (I 0)] 3) fun h24 => ∃ (cs25 : List Value) (z26 : Nat), h24 b23 = some (.inl ⟨cs25, z26, false⟩) ∧ 0 + 3 ≤ List.length cs25 ∧ setH (h24.row b23 (lset cs25 0 [(I x19), s20.v, (I x21)]) z26) fun h27 => joinP (fun (c38 : Bool) (h39 : Hp) => bsplit c38 (R (.bool false) h39) (∃ (x44 : Int), Hp.cell h39 b23 0 = some (I x44) ∧ (∃ (s45 : Sl), Hp.cell h39 b23 1 = some s45.v ∧ (∃ (x46 : Int), Hp.cell h39 b23 2 = some (I x46) ∧ (c_laws_markBdd #[(.agg #[(I x44), s45.v, (I x46)]), (I 1)] h39 fun v47 h48 => ∃ (x49 : Int), v47 = (I x49) ∧ (∃ (x52 : Int), Hp.cell h48 b23 0 = some (I x52) ∧ (∃ (s53 : Sl), Hp.cell h48 b23 1 = some s53.v ∧ (∃ (x54 : Int), Hp.cell h48 b23 2 = some (I x54) ∧ (c_laws_heldBdd #[(.agg #[(I x52), s53.v, (I x54)]), (I 1)] h48 fun v55 h56 => ∃ (x57 : Int), v55 = (I x57) ∧ (bsplit (decide (x57 < 0)) (R (.bool false) h56) (bsplit (x57 != x49) (R (.bool false) h56) (c_impl_BddConst #[(I x1), (.bool c2)] h56 fun v65 h66 => ∃ (x67 : Int) (s68 : Sl) (x69 : Int) (c70 : Bool), v65 = (.tuple #[(.agg #[(I x67), s68.v, (I x69)]), (.bool c70)]) ∧ (∀ b71 : Nat, h66 b71 = none → setH (h66.row b71 [(I 0), (.slice none 0 0), (I 0)] 3) fun h72 => ∃ (cs73 : List Value) (z74 : Nat), h72 b71 = some (.inl ⟨cs73, z74, false⟩) ∧ 0 + 3 ≤ List.length cs73 ∧ setH (h72.row b71 (lset cs73 0 [(I x67), s68.v, (I x69)]) z74) fun h75 => joinP (fun (c86 : Bool) (h87 : Hp) => bsplit c86 (R (.bool false) h87) (∃ (x92 : Int), Hp.cell h87 b23 0 = some (I x92) ∧ (∃ (s93 : Sl), Hp.cell h87 b23 1 = some s93.v ∧ (∃ (x94 : Int), Hp.cell h87 b23 2 = some (I x94) ∧ (c_laws_heldBdd #[(.agg #[(I x92), s93.v, (I x94)]), (I 1)] h87 fun v95 h96 => ∃ (x97 : Int), v95 = (I x97) ∧ (bsplit (decide (x97 < 0)) (R (.bool false) h96) (bsplit (x97 != x49) (R (.bool false) h96) (R (.bool true) h96)))))))) fun J105 => ∃ (x77 : Int), Hp.cell h75 b71 0 = some (I x77) ∧ (∃ (s78 : Sl), Hp.cell h75 b71 1 = some s78.v ∧ (∃ (x79 : Int), Hp.cell h75 b71 2 = some (I x79) ∧ (∃ (x80 : Int), Hp.cell h75 b11 0 = some (I x80) ∧ (∃ (s81 : Sl), Hp.cell h75 b11 1 = some s81.v ∧ (∃ (x82 : Int), Hp.cell h75 b11 2 = some (I x82) ∧ (c_laws_eqBdd #[(.agg #[(I x77), s78.v, (I x79)]), (.agg #[(I x80), s81.v, (I x82)])] h75 fun v83 h84 => ∃ (c85 : Bool), v83 = (.bool c85) ∧ (bsplit (!c85) (J105 true h84) (J105 (!(c70 == c10)) h84))))))))))))))))))))) fun J106 => ∃ (x29 : Int), Hp.cell h27 b23 0 = some (I x29) ∧ (∃ (s30 : Sl), Hp.cell h27 b23 1 = some s30.v ∧ (∃ (x31 : Int), Hp.cell h27 b23 2 = some (I x31) ∧ (∃ (x32 : Int), Hp.cell h27 b11 0 = some (I x32) ∧ (∃ (s33 : Sl), Hp.cell h27 b11 1 = some s33.v ∧ (∃ (x34 : Int), Hp.cell h27 b11 2 = some (I x34) ∧ (c_laws_eqBdd #[(.agg #[(I x29), s30.v, (I x31)]), (.agg #[(I x32), s33.v, (I x34)])] h27 fun v35 h36 => ∃ (c37 : Bool), v35 = (.bool c37) ∧ (bsplit (!c37) (J106 true h36) (J106 (!(c22 == c10)) h36))))))))))
theorem E_laws_FnExactBddConst (x1 : Int) (c2 : Bool) (h : Hp) (R : Value → Hp → Prop) : ABd PR Try.f5 A_laws_FnExactBddConst #[(I x1), (.bool c2)] h R = F_laws_FnExactBddConst x1 c2 h R := by kernel_rfl
theorem O_laws_FnExactBddConst : okF PR 5 = true := by kernel_rfl
theorem B_laws_FnExactBddConst : Try.f5.body.isSome = true := by kernel_rfl
theorem R_laws_FnExactBddConst {x1 : Int} {c2 : Bool} {h : Hp} {R : Value → Hp → Prop} (e : F_laws_FnExactBddConst x1 c2 h R) : c_laws_FnExactBddConst #[(I x1), (.bool c2)] h R :=
  acalls mixed Try.func5 B_laws_FnExactBddConst O_laws_FnExactBddConst A_laws_FnExactBddConst (by kernel_rfl) ((E_laws_FnExactBddConst x1 c2 h R).mpr e)

def A_spec_l1Bit : Ann := fun r => []
def F_spec_l1Bit (x1 : Int) (x2 : Int) (h : Hp) (R : Value → Hp → Prop) : Prop :=
  if (IntKind.wrap .u64 (x2)) < 0 then False else (R (I (Int.tmod (shrW x1 (IntKind.wrap .u64 (x2))) 2)) h)
theorem E_spec_l1Bit (x1 : Int) (x2 : Int) (h : Hp) (R : Value → Hp → Prop) : ABd PR Try.f79 A_spec_l1Bit #[(I x1), (I x2)] h R = F_spec_l1Bit x1 x2 h R := by kernel_rfl
theorem O_spec_l1Bit : okF PR 79 = true := by kernel_rfl
theorem B_spec_l1Bit : Try.f79.body.isSome = true := by kernel_rfl
theorem R_spec_l1Bit {x1 : Int} {x2 : Int} {h : Hp} {R : Value → Hp → Prop} (e : F_spec_l1Bit x1 x2 h R) : c_spec_l1Bit #[(I x1), (I x2)] h R :=
  acalls mixed Try.func79 B_spec_l1Bit O_spec_l1Bit A_spec_l1Bit (by kernel_rfl) ((E_spec_l1Bit x1 x2 h R).mpr e)

def A_spec_l10True : Ann := fun r => []
def F_spec_l10True (x1 : Int) (x2 : Int) (h : Hp) (R : Value → Hp → Prop) : Prop :=
  bsplit (decide (x1 > 0)) (c_spec_l1Bit #[(I x2), (I (W (x1 - 1)))] h fun v7 h8 => ∃ (x9 : Int), v7 = (I x9) ∧ (R (.bool (x9 == 1)) h8)) (c_spec_l1Bit #[(I x2), (I (W ((W (0 - x1)) - 1)))] h fun v11 h12 => ∃ (x13 : Int), v11 = (I x13) ∧ (R (.bool (x13 == 0)) h12))
theorem E_spec_l10True (x1 : Int) (x2 : Int) (h : Hp) (R : Value → Hp → Prop) : ABd PR Try.f78 A_spec_l10True #[(I x1), (I x2)] h R = F_spec_l10True x1 x2 h R := by kernel_rfl
theorem O_spec_l10True : okF PR 78 = true := by kernel_rfl
theorem B_spec_l10True : Try.f78.body.isSome = true := by kernel_rfl
theorem R_spec_l10True {x1 : Int} {x2 : Int} {h : Hp} {R : Value → Hp → Prop} (e : F_spec_l10True x1 x2 h R) : c_spec_l10True #[(I x1), (I x2)] h R :=
  acalls mixed Try.func78 B_spec_l10True O_spec_l10True A_spec_l10True (by kernel_rfl) ((E_spec_l10True x1 x2 h R).mpr e)

def A_spec_l10Any : Ann := fun r => if r = 2 then [(0, .slice 0), (1, .int .i64), (5, .int .i64)] else []
def F_spec_l10Any (s1 : Sl) (x2 : Int) (h : Hp) (R : Value → Hp → Prop) : Prop :=
  ALoop (fun vs7 h6 next8 => ∃ (s9 : Sl) (x10 : Int) (x11 : Int), vs7 = [s9.v, (I x10), (I x11)] ∧ (bsplit (decide (x11 < ((s9.n : Nat) : Int))) (∃ b16 o17 : Nat, s9.a = some (Addr.mk b16 o17 none) ∧ (0 : Int) ≤ x11 ∧ x11 < ((s9.n : Nat) : Int) ∧ (∃ (x18 : Int), Hp.cell h6 b16 (o17 + Int.toNat x11 * 1) = some (I x18) ∧ (c_spec_l10True #[(I x18), (I x10)] h6 fun v19 h20 => ∃ (c21 : Bool), v19 = (.bool c21) ∧ (bsplit c21 (R (.bool true) h20) (next8 [s9.v, (I x10), (I (W (x11 + 1)))] h20))))) (R (.bool false) h6))) [s1.v, (I x2), (I 0)] h
theorem E_spec_l10Any (s1 : Sl) (x2 : Int) (h : Hp) (R : Value → Hp → Prop) : ABd PR Try.f69 A_spec_l10Any #[s1.v, (I x2)] h R = F_spec_l10Any s1 x2 h R := by kernel_rfl
theorem O_spec_l10Any : okF PR 69 = true := by kernel_rfl
theorem B_spec_l10Any : Try.f69.body.isSome = true := by kernel_rfl
theorem R_spec_l10Any {s1 : Sl} {x2 : Int} {h : Hp} {R : Value → Hp → Prop} (e : F_spec_l10Any s1 x2 h R) : c_spec_l10Any #[s1.v, (I x2)] h R :=
  acalls mixed Try.func69 B_spec_l10Any O_spec_l10Any A_spec_l10Any (by kernel_rfl) ((E_spec_l10Any s1 x2 h R).mpr e)

def A_spec_l10All : Ann := fun r => if r = 2 then [(1, .slice 0), (2, .int .i64), (3, .unsafePointer), (7, .int .i64)] else []
def F_spec_l10All (x1 : Int) (s2 : Sl) (s3 : Sl) (x4 : Int) (h : Hp) (R : Value → Hp → Prop) : Prop :=
  ∀ b6 : Nat, h b6 = none → setH (h.row b6 [(I x1), s2.v] 2) fun h7 => ALoop (fun vs11 h10 next12 => ∃ (s13 : Sl) (x14 : Int) (b15 o16 : Nat) (x17 : Int), vs11 = [s13.v, (I x14), (.pointer (some (Addr.mk b15 o16 none))), (I x17)] ∧ (∃ (s19 : Sl), Hp.cell h10 b15 (o16 + 1) = some s19.v ∧ (bsplit (decide (x17 < ((s19.n : Nat) : Int))) (joinP (fun (c32 : Bool) (h33 : Hp) => bsplit c32 (R (.bool false) h33) (next12 [s13.v, (I x14), (.pointer (some (Addr.mk b15 o16 none))), (I (W (x17 + 1)))] h33)) fun J37 => ∃ b22 o23 : Nat, s13.a = some (Addr.mk b22 o23 none) ∧ (0 : Int) ≤ x17 ∧ x17 < ((s13.n : Nat) : Int) ∧ (∃ (c24 : Bool), Hp.cell h10 b22 (o23 + Int.toNat x17 * 1) = some (.bool c24) ∧ (bsplit c24 (∃ (s25 : Sl), Hp.cell h10 b15 (o16 + 1) = some s25.v ∧ (∃ b26 o27 : Nat, s25.a = some (Addr.mk b26 o27 none) ∧ (0 : Int) ≤ x17 ∧ x17 < ((s25.n : Nat) : Int) ∧ (∃ (s28 : Sl), Hp.cell h10 b26 (o27 + Int.toNat x17 * 1) = some s28.v ∧ (c_spec_l10Any #[s28.v, (I x14)] h10 fun v29 h30 => ∃ (c31 : Bool), v29 = (.bool c31) ∧ (J37 (!c31) h30))))) (J37 false h10)))) (R (.bool true) h10)))) [s3.v, (I x4), (.pointer (some (Addr.mk b6 0 none))), (I 0)] h7
theorem E_spec_l10All (x1 : Int) (s2 : Sl) (s3 : Sl) (x4 : Int) (h : Hp) (R : Value → Hp → Prop) : ABd PR Try.f47 A_spec_l10All #[(.agg #[(I x1), s2.v]), s3.v, (I x4)] h R = F_spec_l10All x1 s2 s3 x4 h R := by kernel_rfl
theorem O_spec_l10All : okF PR 47 = true := by kernel_rfl
theorem B_spec_l10All : Try.f47.body.isSome = true := by kernel_rfl
theorem R_spec_l10All {x1 : Int} {s2 : Sl} {s3 : Sl} {x4 : Int} {h : Hp} {R : Value → Hp → Prop} (e : F_spec_l10All x1 s2 s3 x4 h R) : c_spec_l10All #[(.agg #[(I x1), s2.v]), s3.v, (I x4)] h R :=
  acalls mixed Try.func47 B_spec_l10All O_spec_l10All A_spec_l10All (by kernel_rfl) ((E_spec_l10All x1 s2 s3 x4 h R).mpr e)

def A_spec_l10Every : Ann := fun r => if r = 3 then [(3, .slice 0), (4, .int .i64)] else []
def F_spec_l10Every (x1 : Int) (s2 : Sl) (h : Hp) (R : Value → Hp → Prop) : Prop :=
  ∀ b4 : Nat, h b4 = none → setH (h.row b4 [(I x1), s2.v] 2) fun h5 => ∃ (s7 : Sl), Hp.cell h5 b4 1 = some s7.v ∧ ((0 : Int) ≤ ((s7.n : Nat) : Int) ∧ ((s7.n : Nat) : Int) ≤ ((s7.n : Nat) : Int) ∧ ((s7.n : Nat) : Int) * ((1 : Nat) : Int) ≤ 140737488355328 ∧ ((s7.n : Nat) : Int) ≤ 9223372036854775807 ∧ ∀ b8 : Nat, h5 b8 = none → setH (h5.row b8 (zeroRow #[(.bool false)] (Int.toNat ((s7.n : Nat) : Int) * 1)) (Int.toNat ((s7.n : Nat) : Int) * 1)) fun h9 => ALoop (fun vs13 h12 next14 => ∃ (s15 : Sl) (x16 : Int), vs13 = [s15.v, (I x16)] ∧ (bsplit (decide (x16 < ((s15.n : Nat) : Int))) (∃ b21 o22 : Nat, s15.a = some (Addr.mk b21 o22 none) ∧ (0 : Int) ≤ x16 ∧ x16 < ((s15.n : Nat) : Int) ∧ (∃ (cs23 : List Value) (z24 : Nat), h12 b21 = some (.inl ⟨cs23, z24, false⟩) ∧ (o22 + Int.toNat x16 * 1) + 1 ≤ List.length cs23 ∧ setH (h12.row b21 (lset cs23 (o22 + Int.toNat x16 * 1) [(.bool true)]) z24) fun h25 => next14 [s15.v, (I (W (x16 + 1)))] h25)) (R s15.v h12))) [(.slice (some (Addr.mk b8 0 none)) (Int.toNat ((s7.n : Nat) : Int)) (Int.toNat ((s7.n : Nat) : Int))), (I 0)] h9)
theorem E_spec_l10Every (x1 : Int) (s2 : Sl) (h : Hp) (R : Value → Hp → Prop) : ABd PR Try.f48 A_spec_l10Every #[(.agg #[(I x1), s2.v])] h R = F_spec_l10Every x1 s2 h R := by kernel_rfl
theorem O_spec_l10Every : okF PR 48 = true := by kernel_rfl
theorem B_spec_l10Every : Try.f48.body.isSome = true := by kernel_rfl
theorem R_spec_l10Every {x1 : Int} {s2 : Sl} {h : Hp} {R : Value → Hp → Prop} (e : F_spec_l10Every x1 s2 h R) : c_spec_l10Every #[(.agg #[(I x1), s2.v])] h R :=
  acalls mixed Try.func48 B_spec_l10Every O_spec_l10Every A_spec_l10Every (by kernel_rfl) ((E_spec_l10Every x1 s2 h R).mpr e)

def A_spec_CnfHolds : Ann := fun r => []
def F_spec_CnfHolds (x1 : Int) (s2 : Sl) (x3 : Int) (h : Hp) (R : Value → Hp → Prop) : Prop :=
  ∀ b5 : Nat, h b5 = none → setH (h.row b5 [(I x1), s2.v] 2) fun h6 => ∃ (x7 : Int), Hp.cell h6 b5 0 = some (I x7) ∧ (∃ (s8 : Sl), Hp.cell h6 b5 1 = some s8.v ∧ (c_spec_CnfOk #[(.agg #[(I x7), s8.v])] h6 fun v9 h10 => ∃ (c11 : Bool), v9 = (.bool c11) ∧ (bsplit c11 (∃ (x12 : Int), Hp.cell h10 b5 0 = some (I x12) ∧ (if (IntKind.wrap .u64 (x12)) < 0 then False else (c_spec_l1In #[(I x3), (I 0), (I (W ((shlW 1 (IntKind.wrap .u64 (x12))) - 1)))] h10 fun v13 h14 => ∃ (c15 : Bool), v13 = (.bool c15) ∧ (bsplit c15 (∃ (x16 : Int), Hp.cell h14 b5 0 = some (I x16) ∧ (∃ (s17 : Sl), Hp.cell h14 b5 1 = some s17.v ∧ (∃ (x18 : Int), Hp.cell h14 b5 0 = some (I x18) ∧ (∃ (s19 : Sl), Hp.cell h14 b5 1 = some s19.v ∧ (c_spec_l10Every #[(.agg #[(I x18), s19.v])] h14 fun v20 h21 => ∃ (s22 : Sl), v20 = s22.v ∧ (h21 b5 = h14 b5 ∧ (c_spec_l10All #[(.agg #[(I x16), s17.v]), s22.v, (I x3)] h21 fun v23 h24 => ∃ (c25 : Bool), v23 = (.bool c25) ∧ (R (.bool c25) h24)))))))) (h14 b5 = h14 b5 ∧ (R (.bool false) h14)))))) (h10 b5 = h10 b5 ∧ (R (.bool false) h10)))))
theorem E_spec_CnfHolds (x1 : Int) (s2 : Sl) (x3 : Int) (h : Hp) (R : Value → Hp → Prop) : ABd PR Try.f21 A_spec_CnfHolds #[(.agg #[(I x1), s2.v]), (I x3)] h R = F_spec_CnfHolds x1 s2 x3 h R := by kernel_rfl
theorem O_spec_CnfHolds : okF PR 21 = true := by kernel_rfl
theorem B_spec_CnfHolds : Try.f21.body.isSome = true := by kernel_rfl
theorem R_spec_CnfHolds {x1 : Int} {s2 : Sl} {x3 : Int} {h : Hp} {R : Value → Hp → Prop} (e : F_spec_CnfHolds x1 s2 x3 h R) : c_spec_CnfHolds #[(.agg #[(I x1), s2.v]), (I x3)] h R :=
  acalls mixed Try.func21 B_spec_CnfHolds O_spec_CnfHolds A_spec_CnfHolds (by kernel_rfl) ((E_spec_CnfHolds x1 s2 x3 h R).mpr e)

def A_impl_literal : Ann := fun r => []
def F_impl_literal (x1 : Int) (x2 : Int) (h : Hp) (R : Value → Hp → Prop) : Prop :=
  bsplit (decide (x1 < 0)) (if (W ((W (0 - x1)) - 1)) < 0 then False else (R (.bool ((andW (shrW x2 (W ((W (0 - x1)) - 1))) 1) == 0)) h)) (if (W (x1 - 1)) < 0 then False else (R (.bool ((andW (shrW x2 (W (x1 - 1))) 1) == 1)) h))
theorem E_impl_literal (x1 : Int) (x2 : Int) (h : Hp) (R : Value → Hp → Prop) : ABd PR Try.f72 A_impl_literal #[(I x1), (I x2)] h R = F_impl_literal x1 x2 h R := by kernel_rfl
theorem O_impl_literal : okF PR 72 = true := by kernel_rfl
theorem B_impl_literal : Try.f72.body.isSome = true := by kernel_rfl
theorem R_impl_literal {x1 : Int} {x2 : Int} {h : Hp} {R : Value → Hp → Prop} (e : F_impl_literal x1 x2 h R) : c_impl_literal #[(I x1), (I x2)] h R :=
  acalls mixed Try.func72 B_impl_literal O_impl_literal A_impl_literal (by kernel_rfl) ((E_impl_literal x1 x2 h R).mpr e)

def A_impl_clausesHold_d1_d1 : Ann := fun r => []
def F_impl_clausesHold_d1_d1 (x1 : Int) (b2 o3 : Nat) (h : Hp) (R : Value → Hp → Prop) : Prop :=
  ∃ (x6 : Int), Hp.cell h b2 o3 = some (I x6) ∧ (c_impl_literal #[(I x1), (I x6)] h fun v7 h8 => ∃ (c9 : Bool), v7 = (.bool c9) ∧ (R (.bool c9) h8))
theorem E_impl_clausesHold_d1_d1 (x1 : Int) (b2 o3 : Nat) (h : Hp) (R : Value → Hp → Prop) : ABd PR Try.f71 A_impl_clausesHold_d1_d1 #[(I x1), (.pointer (some (Addr.mk b2 o3 none)))] h R = F_impl_clausesHold_d1_d1 x1 b2 o3 h R := by kernel_rfl
theorem O_impl_clausesHold_d1_d1 : okF PR 71 = true := by kernel_rfl
theorem B_impl_clausesHold_d1_d1 : Try.f71.body.isSome = true := by kernel_rfl
theorem R_impl_clausesHold_d1_d1 {x1 : Int} {b2 o3 : Nat} {h : Hp} {R : Value → Hp → Prop} (e : F_impl_clausesHold_d1_d1 x1 b2 o3 h R) : c_impl_clausesHold_d1_d1 #[(I x1), (.pointer (some (Addr.mk b2 o3 none)))] h R :=
  acalls mixed Try.func71 B_impl_clausesHold_d1_d1 O_impl_clausesHold_d1_d1 A_impl_clausesHold_d1_d1 (by kernel_rfl) ((E_impl_clausesHold_d1_d1 x1 b2 o3 h R).mpr e)

def A_impl_clausesHold_d1 : Ann := fun r => []
def F_impl_clausesHold_d1 (s1 : Sl) (b2 o3 : Nat) (h : Hp) (R : Value → Hp → Prop) : Prop :=
  c_slices_ContainsFunc_Sint_int #[s1.v, (.func (.func i_impl_clausesHold_d1_d1) #[] #[(.pointer (some (Addr.mk b2 o3 none)))])] h fun v6 h7 => ∃ (c8 : Bool), v6 = (.bool c8) ∧ (R (.bool (!c8)) h7)
theorem E_impl_clausesHold_d1 (s1 : Sl) (b2 o3 : Nat) (h : Hp) (R : Value → Hp → Prop) : ABd PR Try.f70 A_impl_clausesHold_d1 #[s1.v, (.pointer (some (Addr.mk b2 o3 none)))] h R = F_impl_clausesHold_d1 s1 b2 o3 h R := by kernel_rfl
theorem O_impl_clausesHold_d1 : okF PR 70 = true := by kernel_rfl
theorem B_impl_clausesHold_d1 : Try.f70.body.isSome = true := by kernel_rfl
theorem R_impl_clausesHold_d1 {s1 : Sl} {b2 o3 : Nat} {h : Hp} {R : Value → Hp → Prop} (e : F_impl_clausesHold_d1 s1 b2 o3 h R) : c_impl_clausesHold_d1 #[s1.v, (.pointer (some (Addr.mk b2 o3 none)))] h R :=
  acalls mixed Try.func70 B_impl_clausesHold_d1 O_impl_clausesHold_d1 A_impl_clausesHold_d1 (by kernel_rfl) ((E_impl_clausesHold_d1 s1 b2 o3 h R).mpr e)

def A_impl_clausesHold : Ann := fun r => []
def F_impl_clausesHold (s1 : Sl) (x2 : Int) (h : Hp) (R : Value → Hp → Prop) : Prop :=
  ∀ b4 : Nat, h b4 = none → setH (h.row b4 [(I x2)] 1) fun h5 => c_slices_ContainsFunc_SSint_Sint #[s1.v, (.func (.func i_impl_clausesHold_d1) #[] #[(.pointer (some (Addr.mk b4 0 none)))])] h5 fun v7 h8 => ∃ (c9 : Bool), v7 = (.bool c9) ∧ (R (.bool (!c9)) h8)
theorem E_impl_clausesHold (s1 : Sl) (x2 : Int) (h : Hp) (R : Value → Hp → Prop) : ABd PR Try.f49 A_impl_clausesHold #[s1.v, (I x2)] h R = F_impl_clausesHold s1 x2 h R := by kernel_rfl
theorem O_impl_clausesHold : okF PR 49 = true := by kernel_rfl
theorem B_impl_clausesHold : Try.f49.body.isSome = true := by kernel_rfl
theorem R_impl_clausesHold {s1 : Sl} {x2 : Int} {h : Hp} {R : Value → Hp → Prop} (e : F_impl_clausesHold s1 x2 h R) : c_impl_clausesHold #[s1.v, (I x2)] h R :=
  acalls mixed Try.func49 B_impl_clausesHold O_impl_clausesHold A_impl_clausesHold (by kernel_rfl) ((E_impl_clausesHold s1 x2 h R).mpr e)

def A_impl_CnfHolds : Ann := fun r => []
def F_impl_CnfHolds (x1 : Int) (s2 : Sl) (x3 : Int) (h : Hp) (R : Value → Hp → Prop) : Prop :=
  ∀ b5 : Nat, h b5 = none → setH (h.row b5 [(I x1), s2.v] 2) fun h6 => ∃ (x7 : Int), Hp.cell h6 b5 0 = some (I x7) ∧ (∃ (s8 : Sl), Hp.cell h6 b5 1 = some s8.v ∧ (c_impl_CnfOk #[(.agg #[(I x7), s8.v])] h6 fun v9 h10 => ∃ (c11 : Bool), v9 = (.bool c11) ∧ (bsplit c11 (∃ (x12 : Int), Hp.cell h10 b5 0 = some (I x12) ∧ (if x12 < 0 then False else (c_impl_in #[(I x3), (I 0), (I (W ((shlW 1 x12) - 1)))] h10 fun v13 h14 => ∃ (c15 : Bool), v13 = (.bool c15) ∧ (bsplit c15 (∃ (s16 : Sl), Hp.cell h14 b5 1 = some s16.v ∧ (c_impl_clausesHold #[s16.v, (I x3)] h14 fun v17 h18 => ∃ (c19 : Bool), v17 = (.bool c19) ∧ (R (.bool c19) h18))) (R (.bool false) h14))))) (R (.bool false) h10))))
theorem E_impl_CnfHolds (x1 : Int) (s2 : Sl) (x3 : Int) (h : Hp) (R : Value → Hp → Prop) : ABd PR Try.f22 A_impl_CnfHolds #[(.agg #[(I x1), s2.v]), (I x3)] h R = F_impl_CnfHolds x1 s2 x3 h R := by kernel_rfl
theorem O_impl_CnfHolds : okF PR 22 = true := by kernel_rfl
theorem B_impl_CnfHolds : Try.f22.body.isSome = true := by kernel_rfl
theorem R_impl_CnfHolds {x1 : Int} {s2 : Sl} {x3 : Int} {h : Hp} {R : Value → Hp → Prop} (e : F_impl_CnfHolds x1 s2 x3 h R) : c_impl_CnfHolds #[(.agg #[(I x1), s2.v]), (I x3)] h R :=
  acalls mixed Try.func22 B_impl_CnfHolds O_impl_CnfHolds A_impl_CnfHolds (by kernel_rfl) ((E_impl_CnfHolds x1 s2 x3 h R).mpr e)

def A_laws_FnExactCnfHolds : Ann := fun r => []
def F_laws_FnExactCnfHolds (x1 : Int) (s2 : Sl) (x3 : Int) (h : Hp) (R : Value → Hp → Prop) : Prop :=
  ∀ b5 : Nat, h b5 = none → setH (h.row b5 [(I x1), s2.v] 2) fun h6 => ∃ (x9 : Int), Hp.cell h6 b5 0 = some (I x9) ∧ (∃ (s10 : Sl), Hp.cell h6 b5 1 = some s10.v ∧ (c_laws_szCnf #[(.agg #[(I x9), s10.v]), (I 1048576)] h6 fun v11 h12 => ∃ (x13 : Int), v11 = (I x13) ∧ (bsplit (decide (x13 < 0)) (R (.bool true) h12) (∃ (x18 : Int), Hp.cell h12 b5 0 = some (I x18) ∧ (∃ (s19 : Sl), Hp.cell h12 b5 1 = some s19.v ∧ (c_laws_toCnf #[(.agg #[(I x18), s19.v])] h12 fun v20 h21 => ∃ (x22 : Int) (s23 : Sl), v20 = (.agg #[(I x22), s23.v]) ∧ (c_spec_CnfHolds #[(.agg #[(I x22), s23.v]), (I x3)] h21 fun v24 h25 => ∃ (c26 : Bool), v24 = (.bool c26) ∧ (∃ (x28 : Int), Hp.cell h25 b5 0 = some (I x28) ∧ (∃ (s29 : Sl), Hp.cell h25 b5 1 = some s29.v ∧ (c_laws_toCnf #[(.agg #[(I x28), s29.v])] h25 fun v30 h31 => ∃ (x32 : Int) (s33 : Sl), v30 = (.agg #[(I x32), s33.v]) ∧ (∀ b34 : Nat, h31 b34 = none → setH (h31.row b34 [(I 0), (.slice none 0 0)] 2) fun h35 => ∃ (cs36 : List Value) (z37 : Nat), h35 b34 = some (.inl ⟨cs36, z37, false⟩) ∧ 0 + 2 ≤ List.length cs36 ∧ setH (h35.row b34 (lset cs36 0 [(I x32), s33.v]) z37) fun h38 => ∃ (x40 : Int), Hp.cell h38 b34 0 = some (I x40) ∧ (∃ (s41 : Sl), Hp.cell h38 b34 1 = some s41.v ∧ (c_impl_CnfHolds #[(.agg #[(I x40), s41.v]), (I x3)] h38 fun v42 h43 => ∃ (c44 : Bool), v42 = (.bool c44) ∧ (bsplit (!(c44 == c26)) (R (.bool false) h43) (∃ (x49 : Int), Hp.cell h43 b34 0 = some (I x49) ∧ (∃ (s50 : Sl), Hp.cell h43 b34 1 = some s50.v ∧ (∃ (x51 : Int), Hp.cell h43 b5 0 = some (I x51) ∧ (∃ (s52 : Sl), Hp.cell h43 b5 1 = some s52.v ∧ (c_laws_toCnf #[(.agg #[(I x51), s52.v])] h43 fun v53 h54 => ∃ (x55 : Int) (s56 : Sl), v53 = (.agg #[(I x55), s56.v]) ∧ (h54 b34 = h43 b34 ∧ (c_laws_eqCnf #[(.agg #[(I x49), s50.v]), (.agg #[(I x55), s56.v])] h54 fun v57 h58 => ∃ (c59 : Bool), v57 = (.bool c59) ∧ (bsplit (!c59) (R (.bool false) h58) (R (.bool true) h58)))))))))))))))))))))))
theorem E_laws_FnExactCnfHolds (x1 : Int) (s2 : Sl) (x3 : Int) (h : Hp) (R : Value → Hp → Prop) : ABd PR Try.f6 A_laws_FnExactCnfHolds #[(.agg #[(I x1), s2.v]), (I x3)] h R = F_laws_FnExactCnfHolds x1 s2 x3 h R := by kernel_rfl
theorem O_laws_FnExactCnfHolds : okF PR 6 = true := by kernel_rfl
theorem B_laws_FnExactCnfHolds : Try.f6.body.isSome = true := by kernel_rfl
theorem R_laws_FnExactCnfHolds {x1 : Int} {s2 : Sl} {x3 : Int} {h : Hp} {R : Value → Hp → Prop} (e : F_laws_FnExactCnfHolds x1 s2 x3 h R) : c_laws_FnExactCnfHolds #[(.agg #[(I x1), s2.v]), (I x3)] h R :=
  acalls mixed Try.func6 B_laws_FnExactCnfHolds O_laws_FnExactCnfHolds A_laws_FnExactCnfHolds (by kernel_rfl) ((E_laws_FnExactCnfHolds x1 s2 x3 h R).mpr e)

def A_spec_l10Least : Ann := fun r => if r = 2 then [(1, .slice 0), (2, .unsafePointer), (5, .int .i64)] else []
def F_spec_l10Least (x1 : Int) (s2 : Sl) (s3 : Sl) (h : Hp) (R : Value → Hp → Prop) : Prop :=
  ∀ b5 : Nat, h b5 = none → setH (h.row b5 [(I x1), s2.v] 2) fun h6 => ALoop (fun vs10 h9 next11 => ∃ (s12 : Sl) (b13 o14 : Nat) (x15 : Int), vs10 = [s12.v, (.pointer (some (Addr.mk b13 o14 none))), (I x15)] ∧ (∃ (x17 : Int), Hp.cell h9 b13 o14 = some (I x17) ∧ (if (IntKind.wrap .u64 (x17)) < 0 then False else (bsplit (decide (x15 < (shlW 1 (IntKind.wrap .u64 (x17))))) (∃ (x21 : Int), Hp.cell h9 b13 o14 = some (I x21) ∧ (∃ (s22 : Sl), Hp.cell h9 b13 (o14 + 1) = some s22.v ∧ (c_spec_l10All #[(.agg #[(I x21), s22.v]), s12.v, (I x15)] h9 fun v23 h24 => ∃ (c25 : Bool), v23 = (.bool c25) ∧ (bsplit c25 (R (I x15) h24) (next11 [s12.v, (.pointer (some (Addr.mk b13 o14 none))), (I (W (x15 + 1)))] h24))))) (R (I (-1)) h9))))) [s3.v, (.pointer (some (Addr.mk b5 0 none))), (I 0)] h6
theorem E_spec_l10Least (x1 : Int) (s2 : Sl) (s3 : Sl) (h : Hp) (R : Value → Hp → Prop) : ABd PR Try.f50 A_spec_l10Least #[(.agg #[(I x1), s2.v]), s3.v] h R = F_spec_l10Least x1 s2 s3 h R := by kernel_rfl
theorem O_spec_l10Least : okF PR 50 = true := by kernel_rfl
theorem B_spec_l10Least : Try.f50.body.isSome = true := by kernel_rfl
theorem R_spec_l10Least {x1 : Int} {s2 : Sl} {s3 : Sl} {h : Hp} {R : Value → Hp → Prop} (e : F_spec_l10Least x1 s2 s3 h R) : c_spec_l10Least #[(.agg #[(I x1), s2.v]), s3.v] h R :=
  acalls mixed Try.func50 B_spec_l10Least O_spec_l10Least A_spec_l10Least (by kernel_rfl) ((E_spec_l10Least x1 s2 s3 h R).mpr e)

def A_spec_SatLeast : Ann := fun r => []
def F_spec_SatLeast (x1 : Int) (s2 : Sl) (h : Hp) (R : Value → Hp → Prop) : Prop :=
  ∀ b4 : Nat, h b4 = none → setH (h.row b4 [(I x1), s2.v] 2) fun h5 => ∃ (x7 : Int), Hp.cell h5 b4 0 = some (I x7) ∧ (∃ (s8 : Sl), Hp.cell h5 b4 1 = some s8.v ∧ (c_spec_CnfOk #[(.agg #[(I x7), s8.v])] h5 fun v9 h10 => ∃ (c11 : Bool), v9 = (.bool c11) ∧ (bsplit (!c11) (R (.tuple #[(I 0), (.bool false)]) h10) (∃ (x15 : Int), Hp.cell h10 b4 0 = some (I x15) ∧ (∃ (s16 : Sl), Hp.cell h10 b4 1 = some s16.v ∧ (∃ (x17 : Int), Hp.cell h10 b4 0 = some (I x17) ∧ (∃ (s18 : Sl), Hp.cell h10 b4 1 = some s18.v ∧ (c_spec_l10Every #[(.agg #[(I x17), s18.v])] h10 fun v19 h20 => ∃ (s21 : Sl), v19 = s21.v ∧ (h20 b4 = h10 b4 ∧ (c_spec_l10Least #[(.agg #[(I x15), s16.v]), s21.v] h20 fun v22 h23 => ∃ (x24 : Int), v22 = (I x24) ∧ (bsplit (decide (x24 < 0)) (R (.tuple #[(I 0), (.bool false)]) h23) (R (.tuple #[(I x24), (.bool true)]) h23))))))))))))
theorem E_spec_SatLeast (x1 : Int) (s2 : Sl) (h : Hp) (R : Value → Hp → Prop) : ABd PR Try.f23 A_spec_SatLeast #[(.agg #[(I x1), s2.v])] h R = F_spec_SatLeast x1 s2 h R := by kernel_rfl
theorem O_spec_SatLeast : okF PR 23 = true := by kernel_rfl
theorem B_spec_SatLeast : Try.f23.body.isSome = true := by kernel_rfl
theorem R_spec_SatLeast {x1 : Int} {s2 : Sl} {h : Hp} {R : Value → Hp → Prop} (e : F_spec_SatLeast x1 s2 h R) : c_spec_SatLeast #[(.agg #[(I x1), s2.v])] h R :=
  acalls mixed Try.func23 B_spec_SatLeast O_spec_SatLeast A_spec_SatLeast (by kernel_rfl) ((E_spec_SatLeast x1 s2 h R).mpr e)

def A_impl_least : Ann := fun r => if r = 2 then [(1, .slice 0), (7, .int .i64), (8, .int .i64)] else []
def F_impl_least (x1 : Int) (s2 : Sl) (h : Hp) (R : Value → Hp → Prop) : Prop :=
  if x1 < 0 then False else (ALoop (fun vs7 h6 next8 => ∃ (s9 : Sl) (x10 : Int) (x11 : Int), vs7 = [s9.v, (I x10), (I x11)] ∧ (bsplit (decide (x11 < x10)) (c_impl_clausesHold #[s9.v, (I x11)] h6 fun v17 h18 => ∃ (c19 : Bool), v17 = (.bool c19) ∧ (bsplit c19 (R (I x11) h18) (next8 [s9.v, (I x10), (I (W (x11 + 1)))] h18))) (R (I (-1)) h6))) [s2.v, (I (shlW 1 x1)), (I 0)] h)
theorem E_impl_least (x1 : Int) (s2 : Sl) (h : Hp) (R : Value → Hp → Prop) : ABd PR Try.f51 A_impl_least #[(I x1), s2.v] h R = F_impl_least x1 s2 h R := by kernel_rfl
theorem O_impl_least : okF PR 51 = true := by kernel_rfl
theorem B_impl_least : Try.f51.body.isSome = true := by kernel_rfl
theorem R_impl_least {x1 : Int} {s2 : Sl} {h : Hp} {R : Value → Hp → Prop} (e : F_impl_least x1 s2 h R) : c_impl_least #[(I x1), s2.v] h R :=
  acalls mixed Try.func51 B_impl_least O_impl_least A_impl_least (by kernel_rfl) ((E_impl_least x1 s2 h R).mpr e)

def A_impl_SatLeast : Ann := fun r => []
def F_impl_SatLeast (x1 : Int) (s2 : Sl) (h : Hp) (R : Value → Hp → Prop) : Prop :=
  ∀ b4 : Nat, h b4 = none → setH (h.row b4 [(I x1), s2.v] 2) fun h5 => ∃ (x7 : Int), Hp.cell h5 b4 0 = some (I x7) ∧ (∃ (s8 : Sl), Hp.cell h5 b4 1 = some s8.v ∧ (c_impl_CnfOk #[(.agg #[(I x7), s8.v])] h5 fun v9 h10 => ∃ (c11 : Bool), v9 = (.bool c11) ∧ (bsplit (!c11) (R (.tuple #[(I 0), (.bool false)]) h10) (∃ (x15 : Int), Hp.cell h10 b4 0 = some (I x15) ∧ (∃ (s16 : Sl), Hp.cell h10 b4 1 = some s16.v ∧ (c_impl_least #[(I x15), s16.v] h10 fun v17 h18 => ∃ (x19 : Int), v17 = (I x19) ∧ (R (.tuple #[(I (if x19 > 0 then x19 else 0)), (.bool (decide (x19 ≥ 0)))]) h18)))))))
theorem E_impl_SatLeast (x1 : Int) (s2 : Sl) (h : Hp) (R : Value → Hp → Prop) : ABd PR Try.f24 A_impl_SatLeast #[(.agg #[(I x1), s2.v])] h R = F_impl_SatLeast x1 s2 h R := by kernel_rfl
theorem O_impl_SatLeast : okF PR 24 = true := by kernel_rfl
theorem B_impl_SatLeast : Try.f24.body.isSome = true := by kernel_rfl
theorem R_impl_SatLeast {x1 : Int} {s2 : Sl} {h : Hp} {R : Value → Hp → Prop} (e : F_impl_SatLeast x1 s2 h R) : c_impl_SatLeast #[(.agg #[(I x1), s2.v])] h R :=
  acalls mixed Try.func24 B_impl_SatLeast O_impl_SatLeast A_impl_SatLeast (by kernel_rfl) ((E_impl_SatLeast x1 s2 h R).mpr e)

def A_laws_FnExactSatLeast : Ann := fun r => []
def F_laws_FnExactSatLeast (x1 : Int) (s2 : Sl) (h : Hp) (R : Value → Hp → Prop) : Prop :=
  ∀ b4 : Nat, h b4 = none → setH (h.row b4 [(I x1), s2.v] 2) fun h5 => ∃ (x8 : Int), Hp.cell h5 b4 0 = some (I x8) ∧ (∃ (s9 : Sl), Hp.cell h5 b4 1 = some s9.v ∧ (c_laws_szCnf #[(.agg #[(I x8), s9.v]), (I 1048576)] h5 fun v10 h11 => ∃ (x12 : Int), v10 = (I x12) ∧ (bsplit (decide (x12 < 0)) (R (.bool true) h11) (∃ (x17 : Int), Hp.cell h11 b4 0 = some (I x17) ∧ (∃ (s18 : Sl), Hp.cell h11 b4 1 = some s18.v ∧ (c_laws_toCnf #[(.agg #[(I x17), s18.v])] h11 fun v19 h20 => ∃ (x21 : Int) (s22 : Sl), v19 = (.agg #[(I x21), s22.v]) ∧ (c_spec_SatLeast #[(.agg #[(I x21), s22.v])] h20 fun v23 h24 => ∃ (x25 : Int) (c26 : Bool), v23 = (.tuple #[(I x25), (.bool c26)]) ∧ (∃ (x28 : Int), Hp.cell h24 b4 0 = some (I x28) ∧ (∃ (s29 : Sl), Hp.cell h24 b4 1 = some s29.v ∧ (c_laws_toCnf #[(.agg #[(I x28), s29.v])] h24 fun v30 h31 => ∃ (x32 : Int) (s33 : Sl), v30 = (.agg #[(I x32), s33.v]) ∧ (∀ b34 : Nat, h31 b34 = none → setH (h31.row b34 [(I 0), (.slice none 0 0)] 2) fun h35 => ∃ (cs36 : List Value) (z37 : Nat), h35 b34 = some (.inl ⟨cs36, z37, false⟩) ∧ 0 + 2 ≤ List.length cs36 ∧ setH (h35.row b34 (lset cs36 0 [(I x32), s33.v]) z37) fun h38 => ∃ (x40 : Int), Hp.cell h38 b34 0 = some (I x40) ∧ (∃ (s41 : Sl), Hp.cell h38 b34 1 = some s41.v ∧ (c_impl_SatLeast #[(.agg #[(I x40), s41.v])] h38 fun v42 h43 => ∃ (x44 : Int) (c45 : Bool), v42 = (.tuple #[(I x44), (.bool c45)]) ∧ (joinP (fun (c47 : Bool) => bsplit c47 (R (.bool false) h43) (∃ (x51 : Int), Hp.cell h43 b34 0 = some (I x51) ∧ (∃ (s52 : Sl), Hp.cell h43 b34 1 = some s52.v ∧ (∃ (x53 : Int), Hp.cell h43 b4 0 = some (I x53) ∧ (∃ (s54 : Sl), Hp.cell h43 b4 1 = some s54.v ∧ (c_laws_toCnf #[(.agg #[(I x53), s54.v])] h43 fun v55 h56 => ∃ (x57 : Int) (s58 : Sl), v55 = (.agg #[(I x57), s58.v]) ∧ (h56 b34 = h43 b34 ∧ (c_laws_eqCnf #[(.agg #[(I x51), s52.v]), (.agg #[(I x57), s58.v])] h56 fun v59 h60 => ∃ (c61 : Bool), v59 = (.bool c61) ∧ (bsplit (!c61) (R (.bool false) h60) (R (.bool true) h60)))))))))) fun J65 => bsplit (x44 != x25) (J65 true) (J65 (!(c45 == c26)))))))))))))))))
theorem E_laws_FnExactSatLeast (x1 : Int) (s2 : Sl) (h : Hp) (R : Value → Hp → Prop) : ABd PR Try.f7 A_laws_FnExactSatLeast #[(.agg #[(I x1), s2.v])] h R = F_laws_FnExactSatLeast x1 s2 h R := by kernel_rfl
theorem O_laws_FnExactSatLeast : okF PR 7 = true := by kernel_rfl
theorem B_laws_FnExactSatLeast : Try.f7.body.isSome = true := by kernel_rfl
theorem R_laws_FnExactSatLeast {x1 : Int} {s2 : Sl} {h : Hp} {R : Value → Hp → Prop} (e : F_laws_FnExactSatLeast x1 s2 h R) : c_laws_FnExactSatLeast #[(.agg #[(I x1), s2.v])] h R :=
  acalls mixed Try.func7 B_laws_FnExactSatLeast O_laws_FnExactSatLeast A_laws_FnExactSatLeast (by kernel_rfl) ((E_laws_FnExactSatLeast x1 s2 h R).mpr e)

def A_spec_l17Open : Ann := fun r => []
def F_spec_l17Open (s1 : Sl) (h : Hp) (R : Value → Hp → Prop) : Prop :=
  bsplit (decide (((s1.n : Nat) : Int) > 2000)) ((0 : Int) ≤ (Int.ofNat 0) ∧ (Int.ofNat 0) ≤ 2000 ∧ 2000 ≤ ((s1.c : Nat) : Int) ∧ ((s1.a = none ∧ (∀ b7 : Nat, h b7 = none → setH (h.row b7 [(.slice none (Int.toNat 2000 - Int.toNat (Int.ofNat 0)) (s1.c - Int.toNat (Int.ofNat 0))), (I 0)] 2) fun h8 => R (.pointer (some (Addr.mk b7 0 none))) h8)) ∨ ∃ b4 o5 : Nat, s1.a = some (Addr.mk b4 o5 none) ∧ (∀ b10 : Nat, h b10 = none → setH (h.row b10 [(.slice (some (Addr.mk b4 (if s1.c = Int.toNat (Int.ofNat 0) then o5 else o5 + Int.toNat (Int.ofNat 0) * 1) none)) (Int.toNat 2000 - Int.toNat (Int.ofNat 0)) (s1.c - Int.toNat (Int.ofNat 0))), (I 0)] 2) fun h11 => R (.pointer (some (Addr.mk b10 0 none))) h11))) (∀ b13 : Nat, h b13 = none → setH (h.row b13 [s1.v, (I 0)] 2) fun h14 => R (.pointer (some (Addr.mk b13 0 none))) h14)
theorem E_spec_l17Open (s1 : Sl) (h : Hp) (R : Value → Hp → Prop) : ABd PR Try.f52 A_spec_l17Open #[s1.v] h R = F_spec_l17Open s1 h R := by kernel_rfl
theorem O_spec_l17Open : okF PR 52 = true := by kernel_rfl
theorem B_spec_l17Open : Try.f52.body.isSome = true := by kernel_rfl
theorem R_spec_l17Open {s1 : Sl} {h : Hp} {R : Value → Hp → Prop} (e : F_spec_l17Open s1 h R) : c_spec_l17Open #[s1.v] h R :=
  acalls mixed Try.func52 B_spec_l17Open O_spec_l17Open A_spec_l17Open (by kernel_rfl) ((E_spec_l17Open s1 h R).mpr e)

def A_spec_l17Rd_pick : Ann := fun r => []
def F_spec_l17Rd_pick (p1 : Option Addr) (x2 : Int) (h : Hp) (R : Value → Hp → Prop) : Prop :=
  ∃ b5 o6 : Nat, p1 = some (Addr.mk b5 o6 none) ∧ (∃ (x7 : Int), Hp.cell h b5 (o6 + 1) = some (I x7) ∧ (∃ b8 o9 : Nat, p1 = some (Addr.mk b8 o9 none) ∧ (∃ (cs10 : List Value) (z11 : Nat), h b8 = some (.inl ⟨cs10, z11, false⟩) ∧ (o9 + 1) + 1 ≤ List.length cs10 ∧ setH (h.row b8 (lset cs10 (o9 + 1) [(I (W (x7 + 1)))]) z11) fun h12 => joinP (fun (c17 : Bool) => bsplit c17 (R (I 0) h12) (∃ b21 o22 : Nat, p1 = some (Addr.mk b21 o22 none) ∧ (∃ (x23 : Int), Hp.cell h12 b21 (o22 + 1) = some (I x23) ∧ (∃ b25 o26 : Nat, p1 = some (Addr.mk b25 o26 none) ∧ (∃ (s27 : Sl), Hp.cell h12 b25 o26 = some s27.v ∧ (bsplit (decide ((W (x23 - 1)) < ((s27.n : Nat) : Int))) (∃ b30 o31 : Nat, p1 = some (Addr.mk b30 o31 none) ∧ (∃ (s32 : Sl), Hp.cell h12 b30 o31 = some s32.v ∧ (∃ b33 o34 : Nat, s32.a = some (Addr.mk b33 o34 none) ∧ (0 : Int) ≤ (W (x23 - 1)) ∧ (W (x23 - 1)) < ((s32.n : Nat) : Int) ∧ (∃ (x35 : Int), Hp.cell h12 b33 (o34 + Int.toNat (W (x23 - 1)) * 1) = some (.int .u8 x35) ∧ (if x2 = 0 then False else (R (I (Int.tmod (W (x35)) x2)) h12)))))) (∃ b36 o37 : Nat, p1 = some (Addr.mk b36 o37 none) ∧ (∃ b38 o39 : Nat, p1 = some (Addr.mk b38 o39 none) ∧ (∃ b40 o41 : Nat, p1 = some (Addr.mk b40 o41 none) ∧ (∃ b42 o43 : Nat, p1 = some (Addr.mk b42 o43 none) ∧ (∃ b44 o45 : Nat, p1 = some (Addr.mk b44 o45 none) ∧ (∃ (s46 : Sl), Hp.cell h12 b36 o37 = some s46.v ∧ (∃ (s47 : Sl), Hp.cell h12 b38 o39 = some s47.v ∧ (if ((s47.n : Nat) : Int) = 0 then False else (∃ b48 o49 : Nat, s46.a = some (Addr.mk b48 o49 none) ∧ (0 : Int) ≤ (Int.tmod (W (x23 - 1)) ((s47.n : Nat) : Int)) ∧ (Int.tmod (W (x23 - 1)) ((s47.n : Nat) : Int)) < ((s46.n : Nat) : Int) ∧ (∃ (x50 : Int), Hp.cell h12 b48 (o49 + Int.toNat (Int.tmod (W (x23 - 1)) ((s47.n : Nat) : Int)) * 1) = some (.int .u8 x50) ∧ (∃ (s51 : Sl), Hp.cell h12 b40 o41 = some s51.v ∧ (∃ (s52 : Sl), Hp.cell h12 b42 o43 = some s52.v ∧ (if ((s52.n : Nat) : Int) = 0 then False else (∃ b53 o54 : Nat, s51.a = some (Addr.mk b53 o54 none) ∧ (0 : Int) ≤ (Int.tmod (W ((W ((W (x23 - 1)) * 7)) + 3)) ((s52.n : Nat) : Int)) ∧ (Int.tmod (W ((W ((W (x23 - 1)) * 7)) + 3)) ((s52.n : Nat) : Int)) < ((s51.n : Nat) : Int) ∧ (∃ (x55 : Int), Hp.cell h12 b53 (o54 + Int.toNat (Int.tmod (W ((W ((W (x23 - 1)) * 7)) + 3)) ((s52.n : Nat) : Int)) * 1) = some (.int .u8 x55) ∧ (∃ (s56 : Sl), Hp.cell h12 b44 o45 = some s56.v ∧ (if ((s56.n : Nat) : Int) = 0 then False else ((h12 b44 = h12 b44 ∧ (h12 b53 = h12 b53 ∧ (h12 b42 = h12 b42 ∧ (h12 b40 = h12 b40 ∧ (h12 b44 = h12 b44 ∧ (h12 b48 = h12 b48 ∧ (h12 b38 = h12 b38 ∧ (h12 b36 = h12 b36 ∧ (if x2 = 0 then False else (R (I (Int.tmod (xorW (W ((W ((W ((W ((W (x50)) * 131)) + (W ((W (x55)) * 1117)))) + (W ((W (x23 - 1)) * 29)))) + (W ((W (Int.tdiv (W (x23 - 1)) ((s56.n : Nat) : Int))) * 53)))) (W (Int.tdiv (W ((W ((W ((W ((W (x50)) * 131)) + (W ((W (x55)) * 1117)))) + (W ((W (x23 - 1)) * 29)))) + (W ((W (Int.tdiv (W (x23 - 1)) ((s56.n : Nat) : Int))) * 53)))) 64))) x2)) h12)))))))))) ∧ (h12 b44 = h12 b44 ∧ (h12 b48 = h12 b48 ∧ (h12 b38 = h12 b38 ∧ (h12 b36 = h12 b36 ∧ (h12 b44 = h12 b44 ∧ (h12 b53 = h12 b53 ∧ (h12 b42 = h12 b42 ∧ (h12 b40 = h12 b40 ∧ (if x2 = 0 then False else (R (I (Int.tmod (xorW (W ((W ((W ((W ((W (x50)) * 131)) + (W ((W (x55)) * 1117)))) + (W ((W (x23 - 1)) * 29)))) + (W ((W (Int.tdiv (W (x23 - 1)) ((s56.n : Nat) : Int))) * 53)))) (W (Int.tdiv (W ((W ((W ((W ((W (x50)) * 131)) + (W ((W (x55)) * 1117)))) + (W ((W (x23 - 1)) * 29)))) + (W ((W (Int.tdiv (W (x23 - 1)) ((s56.n : Nat) : Int))) * 53)))) 64))) x2)) h12)))))))))))))))))))))))))))))))))) fun J61 => bsplit (decide (x2 < 1)) (J61 true) (∃ b14 o15 : Nat, p1 = some (Addr.mk b14 o15 none) ∧ (∃ (s16 : Sl), Hp.cell h12 b14 o15 = some s16.v ∧ (J61 (((s16.n : Nat) : Int) == 0)))))))
theorem E_spec_l17Rd_pick (p1 : Option Addr) (x2 : Int) (h : Hp) (R : Value → Hp → Prop) : ABd PR Try.f54 A_spec_l17Rd_pick #[(.pointer p1), (I x2)] h R = F_spec_l17Rd_pick p1 x2 h R := by kernel_rfl
theorem O_spec_l17Rd_pick : okF PR 54 = true := by kernel_rfl
theorem B_spec_l17Rd_pick : Try.f54.body.isSome = true := by kernel_rfl
theorem R_spec_l17Rd_pick {p1 : Option Addr} {x2 : Int} {h : Hp} {R : Value → Hp → Prop} (e : F_spec_l17Rd_pick p1 x2 h R) : c_spec_l17Rd_pick #[(.pointer p1), (I x2)] h R :=
  acalls mixed Try.func54 B_spec_l17Rd_pick O_spec_l17Rd_pick A_spec_l17Rd_pick (by kernel_rfl) ((E_spec_l17Rd_pick p1 x2 h R).mpr e)

end Go.Lead
