/- The walks of the functions, part 0, written by a program: what the abstract walk of each body comes to. No statement is proved here. -/
import Derived.Test.YthcnlmahlmndhaaFn
set_option maxRecDepth 100000
set_option linter.unusedVariables false
namespace Go.Lead
open Go Go.Proofs

def A_laws_szIntS : Ann := fun r => []
def F_laws_szIntS (s1 : Sl) (x2 : Int) (h : Hp) (R : Value → Hp → Prop) : Prop :=
  bsplit (decide ((W (x2 - ((s1.n : Nat) : Int))) < 0)) (R (I (-1)) h) (R (I (W (x2 - ((s1.n : Nat) : Int)))) h)
theorem E_laws_szIntS (s1 : Sl) (x2 : Int) (h : Hp) (R : Value → Hp → Prop) : ABd PR Try.f59 A_laws_szIntS #[s1.v, (I x2)] h R = F_laws_szIntS s1 x2 h R := by kernel_rfl
theorem O_laws_szIntS : okF PR 59 = true := by kernel_rfl
theorem B_laws_szIntS : Try.f59.body.isSome = true := by kernel_rfl
theorem R_laws_szIntS {s1 : Sl} {x2 : Int} {h : Hp} {R : Value → Hp → Prop} (e : F_laws_szIntS s1 x2 h R) : c_laws_szIntS #[s1.v, (I x2)] h R :=
  acalls mixed Try.func59 B_laws_szIntS O_laws_szIntS A_laws_szIntS (by kernel_rfl) ((E_laws_szIntS s1 x2 h R).mpr e)

def A_laws_szIntSS : Ann := fun r => if r = 5 then [(0, .slice 0), (1, .int .i64), (5, .int .i64)] else []
def F_laws_szIntSS (s1 : Sl) (x2 : Int) (h : Hp) (R : Value → Hp → Prop) : Prop :=
  bsplit (decide ((W (x2 - ((s1.n : Nat) : Int))) < 0)) (R (I (-1)) h) (ALoop (fun vs11 h10 next12 => ∃ (s13 : Sl) (x14 : Int) (x15 : Int), vs11 = [s13.v, (I x14), (I x15)] ∧ (bsplit (decide (x15 < ((s13.n : Nat) : Int))) (∃ b20 o21 : Nat, s13.a = some (Addr.mk b20 o21 none) ∧ (0 : Int) ≤ x15 ∧ x15 < ((s13.n : Nat) : Int) ∧ (∃ (s22 : Sl), Hp.cell h10 b20 (o21 + Int.toNat x15 * 1) = some s22.v ∧ (c_laws_szIntS #[s22.v, (I x14)] h10 fun v23 h24 => ∃ (x25 : Int), v23 = (I x25) ∧ (bsplit (decide (x25 < 0)) (R (I (-1)) h24) (next12 [s13.v, (I x25), (I (W (x15 + 1)))] h24))))) (R (I x14) h10))) [s1.v, (I (W (x2 - ((s1.n : Nat) : Int)))), (I 0)] h)
theorem E_laws_szIntSS (s1 : Sl) (x2 : Int) (h : Hp) (R : Value → Hp → Prop) : ABd PR Try.f29 A_laws_szIntSS #[s1.v, (I x2)] h R = F_laws_szIntSS s1 x2 h R := by kernel_rfl
theorem O_laws_szIntSS : okF PR 29 = true := by kernel_rfl
theorem B_laws_szIntSS : Try.f29.body.isSome = true := by kernel_rfl
theorem R_laws_szIntSS {s1 : Sl} {x2 : Int} {h : Hp} {R : Value → Hp → Prop} (e : F_laws_szIntSS s1 x2 h R) : c_laws_szIntSS #[s1.v, (I x2)] h R :=
  acalls mixed Try.func29 B_laws_szIntSS O_laws_szIntSS A_laws_szIntSS (by kernel_rfl) ((E_laws_szIntSS s1 x2 h R).mpr e)

def A_laws_szCnf : Ann := fun r => []
def F_laws_szCnf (x1 : Int) (s2 : Sl) (x3 : Int) (h : Hp) (R : Value → Hp → Prop) : Prop :=
  ∀ b5 : Nat, h b5 = none → setH (h.row b5 [(I x1), s2.v] 2) fun h6 => ∃ (s8 : Sl), Hp.cell h6 b5 1 = some s8.v ∧ (c_laws_szIntSS #[s8.v, (I x3)] h6 fun v9 h10 => ∃ (x11 : Int), v9 = (I x11) ∧ (bsplit (decide (x11 < 0)) (R (I (-1)) h10) (R (I x11) h10)))
theorem E_laws_szCnf (x1 : Int) (s2 : Sl) (x3 : Int) (h : Hp) (R : Value → Hp → Prop) : ABd PR Try.f9 A_laws_szCnf #[(.agg #[(I x1), s2.v]), (I x3)] h R = F_laws_szCnf x1 s2 x3 h R := by kernel_rfl
theorem O_laws_szCnf : okF PR 9 = true := by kernel_rfl
theorem B_laws_szCnf : Try.f9.body.isSome = true := by kernel_rfl
theorem R_laws_szCnf {x1 : Int} {s2 : Sl} {x3 : Int} {h : Hp} {R : Value → Hp → Prop} (e : F_laws_szCnf x1 s2 x3 h R) : c_laws_szCnf #[(.agg #[(I x1), s2.v]), (I x3)] h R :=
  acalls mixed Try.func9 B_laws_szCnf O_laws_szCnf A_laws_szCnf (by kernel_rfl) ((E_laws_szCnf x1 s2 x3 h R).mpr e)

def A_spec_l1In : Ann := fun r => []
def F_spec_l1In (x1 : Int) (x2 : Int) (x3 : Int) (h : Hp) (R : Value → Hp → Prop) : Prop :=
  bsplit (decide (x1 ≥ x2)) (R (.bool (decide (x1 ≤ x3))) h) (R (.bool false) h)
theorem E_spec_l1In (x1 : Int) (x2 : Int) (x3 : Int) (h : Hp) (R : Value → Hp → Prop) : ABd PR Try.f30 A_spec_l1In #[(I x1), (I x2), (I x3)] h R = F_spec_l1In x1 x2 x3 h R := by kernel_rfl
theorem O_spec_l1In : okF PR 30 = true := by kernel_rfl
theorem B_spec_l1In : Try.f30.body.isSome = true := by kernel_rfl
theorem R_spec_l1In {x1 : Int} {x2 : Int} {x3 : Int} {h : Hp} {R : Value → Hp → Prop} (e : F_spec_l1In x1 x2 x3 h R) : c_spec_l1In #[(I x1), (I x2), (I x3)] h R :=
  acalls mixed Try.func30 B_spec_l1In O_spec_l1In A_spec_l1In (by kernel_rfl) ((E_spec_l1In x1 x2 x3 h R).mpr e)

def A_spec_l10Literal : Ann := fun r => []
def F_spec_l10Literal (x1 : Int) (x2 : Int) (h : Hp) (R : Value → Hp → Prop) : Prop :=
  bsplit (x1 != 0) (c_spec_l1In #[(I x1), (I (W (0 - x2))), (I x2)] h fun v4 h5 => ∃ (c6 : Bool), v4 = (.bool c6) ∧ (R (.bool c6) h5)) (R (.bool false) h)
theorem E_spec_l10Literal (x1 : Int) (x2 : Int) (h : Hp) (R : Value → Hp → Prop) : ABd PR Try.f60 A_spec_l10Literal #[(I x1), (I x2)] h R = F_spec_l10Literal x1 x2 h R := by kernel_rfl
theorem O_spec_l10Literal : okF PR 60 = true := by kernel_rfl
theorem B_spec_l10Literal : Try.f60.body.isSome = true := by kernel_rfl
theorem R_spec_l10Literal {x1 : Int} {x2 : Int} {h : Hp} {R : Value → Hp → Prop} (e : F_spec_l10Literal x1 x2 h R) : c_spec_l10Literal #[(I x1), (I x2)] h R :=
  acalls mixed Try.func60 B_spec_l10Literal O_spec_l10Literal A_spec_l10Literal (by kernel_rfl) ((E_spec_l10Literal x1 x2 h R).mpr e)

def A_spec_l10Clause : Ann := fun r => if r = 4 then [(0, .slice 0), (1, .int .i64), (5, .int .i64)] else []
def F_spec_l10Clause (s1 : Sl) (x2 : Int) (h : Hp) (R : Value → Hp → Prop) : Prop :=
  bsplit (decide (((s1.n : Nat) : Int) > 10)) (R (.bool false) h) (ALoop (fun vs10 h9 next11 => ∃ (s12 : Sl) (x13 : Int) (x14 : Int), vs10 = [s12.v, (I x13), (I x14)] ∧ (bsplit (decide (x14 < ((s12.n : Nat) : Int))) (∃ b19 o20 : Nat, s12.a = some (Addr.mk b19 o20 none) ∧ (0 : Int) ≤ x14 ∧ x14 < ((s12.n : Nat) : Int) ∧ (∃ (x21 : Int), Hp.cell h9 b19 (o20 + Int.toNat x14 * 1) = some (I x21) ∧ (c_spec_l10Literal #[(I x21), (I x13)] h9 fun v22 h23 => ∃ (c24 : Bool), v22 = (.bool c24) ∧ (bsplit (!c24) (R (.bool false) h23) (next11 [s12.v, (I x13), (I (W (x14 + 1)))] h23))))) (R (.bool true) h9))) [s1.v, (I x2), (I 0)] h)
theorem E_spec_l10Clause (s1 : Sl) (x2 : Int) (h : Hp) (R : Value → Hp → Prop) : ABd PR Try.f31 A_spec_l10Clause #[s1.v, (I x2)] h R = F_spec_l10Clause s1 x2 h R := by kernel_rfl
theorem O_spec_l10Clause : okF PR 31 = true := by kernel_rfl
theorem B_spec_l10Clause : Try.f31.body.isSome = true := by kernel_rfl
theorem R_spec_l10Clause {s1 : Sl} {x2 : Int} {h : Hp} {R : Value → Hp → Prop} (e : F_spec_l10Clause s1 x2 h R) : c_spec_l10Clause #[s1.v, (I x2)] h R :=
  acalls mixed Try.func31 B_spec_l10Clause O_spec_l10Clause A_spec_l10Clause (by kernel_rfl) ((E_spec_l10Clause s1 x2 h R).mpr e)

def A_spec_CnfOk : Ann := fun r => if r = 4 then [(1, .unsafePointer), (3, .int .i64)] else []
def F_spec_CnfOk (x1 : Int) (s2 : Sl) (h : Hp) (R : Value → Hp → Prop) : Prop :=
  ∀ b4 : Nat, h b4 = none → setH (h.row b4 [(I x1), s2.v] 2) fun h5 => joinP (fun (c12 : Bool) (h13 : Hp) => bsplit c12 (R (.bool false) h13) (ALoop (fun vs19 h18 next20 => ∃ (b21 o22 : Nat) (x23 : Int), vs19 = [(.pointer (some (Addr.mk b21 o22 none))), (I x23)] ∧ (∃ (s25 : Sl), Hp.cell h18 b21 (o22 + 1) = some s25.v ∧ (bsplit (decide (x23 < ((s25.n : Nat) : Int))) (∃ (s29 : Sl), Hp.cell h18 b21 (o22 + 1) = some s29.v ∧ (∃ b30 o31 : Nat, s29.a = some (Addr.mk b30 o31 none) ∧ (0 : Int) ≤ x23 ∧ x23 < ((s29.n : Nat) : Int) ∧ (∃ (s32 : Sl), Hp.cell h18 b30 (o31 + Int.toNat x23 * 1) = some s32.v ∧ (∃ (x33 : Int), Hp.cell h18 b21 o22 = some (I x33) ∧ (c_spec_l10Clause #[s32.v, (I x33)] h18 fun v34 h35 => ∃ (c36 : Bool), v34 = (.bool c36) ∧ (bsplit (!c36) (R (.bool false) h35) (next20 [(.pointer (some (Addr.mk b21 o22 none))), (I (W (x23 + 1)))] h35))))))) (R (.bool true) h18)))) [(.pointer (some (Addr.mk b4 0 none))), (I 0)] h13)) fun J41 => ∃ (x7 : Int), Hp.cell h5 b4 0 = some (I x7) ∧ (c_spec_l1In #[(I x7), (I 1), (I 10)] h5 fun v8 h9 => ∃ (c10 : Bool), v8 = (.bool c10) ∧ (bsplit (!c10) (J41 true h9) (∃ (s11 : Sl), Hp.cell h9 b4 1 = some s11.v ∧ (J41 (decide (((s11.n : Nat) : Int) > 60)) h9))))
theorem E_spec_CnfOk (x1 : Int) (s2 : Sl) (h : Hp) (R : Value → Hp → Prop) : ABd PR Try.f10 A_spec_CnfOk #[(.agg #[(I x1), s2.v])] h R = F_spec_CnfOk x1 s2 h R := by kernel_rfl
theorem O_spec_CnfOk : okF PR 10 = true := by kernel_rfl
theorem B_spec_CnfOk : Try.f10.body.isSome = true := by kernel_rfl
theorem R_spec_CnfOk {x1 : Int} {s2 : Sl} {h : Hp} {R : Value → Hp → Prop} (e : F_spec_CnfOk x1 s2 h R) : c_spec_CnfOk #[(.agg #[(I x1), s2.v])] h R :=
  acalls mixed Try.func10 B_spec_CnfOk O_spec_CnfOk A_spec_CnfOk (by kernel_rfl) ((E_spec_CnfOk x1 s2 h R).mpr e)

def A_laws_toIntS : Ann := fun r => if r = 3 then [(0, .slice 0), (3, .slice 0), (4, .int .i64)] else []
def F_laws_toIntS (s1 : Sl) (h : Hp) (R : Value → Hp → Prop) : Prop :=
  (0 : Int) ≤ ((s1.n : Nat) : Int) ∧ ((s1.n : Nat) : Int) ≤ ((s1.n : Nat) : Int) ∧ ((s1.n : Nat) : Int) * ((8 : Nat) : Int) ≤ 140737488355328 ∧ ((s1.n : Nat) : Int) ≤ 9223372036854775807 ∧ ∀ b4 : Nat, h b4 = none → setH (h.row b4 (zeroRow #[(I 0)] (Int.toNat ((s1.n : Nat) : Int) * 1)) (Int.toNat ((s1.n : Nat) : Int) * 1)) fun h5 => ALoop (fun vs9 h8 next10 => ∃ (s11 : Sl) (s12 : Sl) (x13 : Int), vs9 = [s11.v, s12.v, (I x13)] ∧ (bsplit (decide (x13 < ((s11.n : Nat) : Int))) (∃ b18 o19 : Nat, s11.a = some (Addr.mk b18 o19 none) ∧ (0 : Int) ≤ x13 ∧ x13 < ((s11.n : Nat) : Int) ∧ (∃ (x20 : Int), Hp.cell h8 b18 (o19 + Int.toNat x13 * 1) = some (I x20) ∧ (∃ b21 o22 : Nat, s12.a = some (Addr.mk b21 o22 none) ∧ (0 : Int) ≤ x13 ∧ x13 < ((s12.n : Nat) : Int) ∧ (∃ (cs23 : List Value) (z24 : Nat), h8 b21 = some (.inl ⟨cs23, z24, false⟩) ∧ (o22 + Int.toNat x13 * 1) + 1 ≤ List.length cs23 ∧ setH (h8.row b21 (lset cs23 (o22 + Int.toNat x13 * 1) [(I x20)]) z24) fun h25 => next10 [s11.v, s12.v, (I (W (x13 + 1)))] h25)))) (R s12.v h8))) [s1.v, (.slice (some (Addr.mk b4 0 none)) (Int.toNat ((s1.n : Nat) : Int)) (Int.toNat ((s1.n : Nat) : Int))), (I 0)] h5
theorem E_laws_toIntS (s1 : Sl) (h : Hp) (R : Value → Hp → Prop) : ABd PR Try.f61 A_laws_toIntS #[s1.v] h R = F_laws_toIntS s1 h R := by kernel_rfl
theorem O_laws_toIntS : okF PR 61 = true := by kernel_rfl
theorem B_laws_toIntS : Try.f61.body.isSome = true := by kernel_rfl
theorem R_laws_toIntS {s1 : Sl} {h : Hp} {R : Value → Hp → Prop} (e : F_laws_toIntS s1 h R) : c_laws_toIntS #[s1.v] h R :=
  acalls mixed Try.func61 B_laws_toIntS O_laws_toIntS A_laws_toIntS (by kernel_rfl) ((E_laws_toIntS s1 h R).mpr e)

def A_laws_toIntSS : Ann := fun r => if r = 3 then [(0, .slice 0), (3, .slice 0), (4, .int .i64)] else []
def F_laws_toIntSS (s1 : Sl) (h : Hp) (R : Value → Hp → Prop) : Prop :=
  (0 : Int) ≤ ((s1.n : Nat) : Int) ∧ ((s1.n : Nat) : Int) ≤ ((s1.n : Nat) : Int) ∧ ((s1.n : Nat) : Int) * ((24 : Nat) : Int) ≤ 140737488355328 ∧ ((s1.n : Nat) : Int) ≤ 9223372036854775807 ∧ ∀ b4 : Nat, h b4 = none → setH (h.row b4 (zeroRow #[(.slice none 0 0)] (Int.toNat ((s1.n : Nat) : Int) * 1)) (Int.toNat ((s1.n : Nat) : Int) * 1)) fun h5 => ALoop (fun vs9 h8 next10 => ∃ (s11 : Sl) (s12 : Sl) (x13 : Int), vs9 = [s11.v, s12.v, (I x13)] ∧ (bsplit (decide (x13 < ((s11.n : Nat) : Int))) (∃ b18 o19 : Nat, s11.a = some (Addr.mk b18 o19 none) ∧ (0 : Int) ≤ x13 ∧ x13 < ((s11.n : Nat) : Int) ∧ (∃ (s20 : Sl), Hp.cell h8 b18 (o19 + Int.toNat x13 * 1) = some s20.v ∧ (c_laws_toIntS #[s20.v] h8 fun v21 h22 => ∃ (s23 : Sl), v21 = s23.v ∧ (∃ b24 o25 : Nat, s12.a = some (Addr.mk b24 o25 none) ∧ (0 : Int) ≤ x13 ∧ x13 < ((s12.n : Nat) : Int) ∧ (∃ (cs26 : List Value) (z27 : Nat), h22 b24 = some (.inl ⟨cs26, z27, false⟩) ∧ (o25 + Int.toNat x13 * 1) + 1 ≤ List.length cs26 ∧ setH (h22.row b24 (lset cs26 (o25 + Int.toNat x13 * 1) [s23.v]) z27) fun h28 => next10 [s11.v, s12.v, (I (W (x13 + 1)))] h28))))) (R s12.v h8))) [s1.v, (.slice (some (Addr.mk b4 0 none)) (Int.toNat ((s1.n : Nat) : Int)) (Int.toNat ((s1.n : Nat) : Int))), (I 0)] h5
theorem E_laws_toIntSS (s1 : Sl) (h : Hp) (R : Value → Hp → Prop) : ABd PR Try.f32 A_laws_toIntSS #[s1.v] h R = F_laws_toIntSS s1 h R := by kernel_rfl
theorem O_laws_toIntSS : okF PR 32 = true := by kernel_rfl
theorem B_laws_toIntSS : Try.f32.body.isSome = true := by kernel_rfl
theorem R_laws_toIntSS {s1 : Sl} {h : Hp} {R : Value → Hp → Prop} (e : F_laws_toIntSS s1 h R) : c_laws_toIntSS #[s1.v] h R :=
  acalls mixed Try.func32 B_laws_toIntSS O_laws_toIntSS A_laws_toIntSS (by kernel_rfl) ((E_laws_toIntSS s1 h R).mpr e)

def A_laws_toCnf : Ann := fun r => []
def F_laws_toCnf (x1 : Int) (s2 : Sl) (h : Hp) (R : Value → Hp → Prop) : Prop :=
  ∀ b4 : Nat, h b4 = none → setH (h.row b4 [(I x1), s2.v] 2) fun h5 => ∀ b6 : Nat, h5 b6 = none → setH (h5.row b6 [(I 0), (.slice none 0 0)] 2) fun h7 => ∀ b9 : Nat, h7 b9 = none → setH (h7.row b9 [(I 0), (.slice none 0 0)] 2) fun h10 => ∃ (x12 : Int), Hp.cell h10 b4 0 = some (I x12) ∧ (∃ (cs13 : List Value) (z14 : Nat), h10 b9 = some (.inl ⟨cs13, z14, false⟩) ∧ 0 + 1 ≤ List.length cs13 ∧ setH (h10.row b9 (lset cs13 0 [(I x12)]) z14) fun h15 => ∃ (s17 : Sl), Hp.cell h15 b4 1 = some s17.v ∧ (c_laws_toIntSS #[s17.v] h15 fun v18 h19 => ∃ (s20 : Sl), v18 = s20.v ∧ (∃ (cs21 : List Value) (z22 : Nat), h19 b9 = some (.inl ⟨cs21, z22, false⟩) ∧ 1 + 1 ≤ List.length cs21 ∧ setH (h19.row b9 (lset cs21 1 [s20.v]) z22) fun h23 => ∃ (x25 : Int), Hp.cell h23 b9 0 = some (I x25) ∧ (∃ (s26 : Sl), Hp.cell h23 b9 1 = some s26.v ∧ (∃ (cs27 : List Value) (z28 : Nat), h23 b6 = some (.inl ⟨cs27, z28, false⟩) ∧ 0 + 2 ≤ List.length cs27 ∧ setH (h23.row b6 (lset cs27 0 [(I x25), s26.v]) z28) fun h29 => ∃ (x30 : Int), Hp.cell h29 b6 0 = some (I x30) ∧ (∃ (s31 : Sl), Hp.cell h29 b6 1 = some s31.v ∧ (R (.agg #[(I x30), s31.v]) h29)))))))
theorem E_laws_toCnf (x1 : Int) (s2 : Sl) (h : Hp) (R : Value → Hp → Prop) : ABd PR Try.f11 A_laws_toCnf #[(.agg #[(I x1), s2.v])] h R = F_laws_toCnf x1 s2 h R := by kernel_rfl
theorem O_laws_toCnf : okF PR 11 = true := by kernel_rfl
theorem B_laws_toCnf : Try.f11.body.isSome = true := by kernel_rfl
theorem R_laws_toCnf {x1 : Int} {s2 : Sl} {h : Hp} {R : Value → Hp → Prop} (e : F_laws_toCnf x1 s2 h R) : c_laws_toCnf #[(.agg #[(I x1), s2.v])] h R :=
  acalls mixed Try.func11 B_laws_toCnf O_laws_toCnf A_laws_toCnf (by kernel_rfl) ((E_laws_toCnf x1 s2 h R).mpr e)

def A_impl_in : Ann := fun r => []
def F_impl_in (x1 : Int) (x2 : Int) (x3 : Int) (h : Hp) (R : Value → Hp → Prop) : Prop :=
  bsplit (decide (x2 ≤ x1)) (R (.bool (decide (x1 ≤ x3))) h) (R (.bool false) h)
theorem E_impl_in (x1 : Int) (x2 : Int) (x3 : Int) (h : Hp) (R : Value → Hp → Prop) : ABd PR Try.f33 A_impl_in #[(I x1), (I x2), (I x3)] h R = F_impl_in x1 x2 x3 h R := by kernel_rfl
theorem O_impl_in : okF PR 33 = true := by kernel_rfl
theorem B_impl_in : Try.f33.body.isSome = true := by kernel_rfl
theorem R_impl_in {x1 : Int} {x2 : Int} {x3 : Int} {h : Hp} {R : Value → Hp → Prop} (e : F_impl_in x1 x2 x3 h R) : c_impl_in #[(I x1), (I x2), (I x3)] h R :=
  acalls mixed Try.func33 B_impl_in O_impl_in A_impl_in (by kernel_rfl) ((E_impl_in x1 x2 x3 h R).mpr e)

def A_slices_IndexFunc_SSint_Sint : Ann := fun r => if r = 2 then [(0, .slice 0), (1, .func #[] #[] false), (7, .int .i64), (8, .int .i64)] else []
def F_slices_IndexFunc_SSint_Sint (s1 : Sl) (f2 : FuncId) (u3 w4 : Array Value) (h : Hp) (R : Value → Hp → Prop) : Prop :=
  ALoop (fun vs9 h8 next10 => ∃ (s11 : Sl) (f12 : FuncId) (u13 w14 : Array Value) (x15 : Int) (x16 : Int), vs9 = [s11.v, (.func (.func f12) u13 w14), (I x15), (I x16)] ∧ (bsplit (decide (x16 < x15)) (∃ b22 o23 : Nat, s11.a = some (Addr.mk b22 o23 none) ∧ (0 : Int) ≤ x16 ∧ x16 < ((s11.n : Nat) : Int) ∧ (∃ (s24 : Sl), Hp.cell h8 b22 (o23 + Int.toNat x16 * 1) = some s24.v ∧ (ACalls PR f12 ((u13 ++ List.toArray [s24.v]) ++ w14) h8 fun v25 h26 => ∃ (c27 : Bool), v25 = (.bool c27) ∧ (bsplit c27 (R (I x16) h26) (next10 [s11.v, (.func (.func f12) u13 w14), (I x15), (I (W (x16 + 1)))] h26))))) (R (I (-1)) h8))) [s1.v, (.func (.func f2) u3 w4), (I ((s1.n : Nat) : Int)), (I 0)] h
theorem E_slices_IndexFunc_SSint_Sint (s1 : Sl) (f2 : FuncId) (u3 w4 : Array Value) (h : Hp) (R : Value → Hp → Prop) : ABd PR Try.f62 A_slices_IndexFunc_SSint_Sint #[s1.v, (.func (.func f2) u3 w4)] h R = F_slices_IndexFunc_SSint_Sint s1 f2 u3 w4 h R := by kernel_rfl
theorem O_slices_IndexFunc_SSint_Sint : okF PR 62 = true := by kernel_rfl
theorem B_slices_IndexFunc_SSint_Sint : Try.f62.body.isSome = true := by kernel_rfl
theorem R_slices_IndexFunc_SSint_Sint {s1 : Sl} {f2 : FuncId} {u3 w4 : Array Value} {h : Hp} {R : Value → Hp → Prop} (e : F_slices_IndexFunc_SSint_Sint s1 f2 u3 w4 h R) : c_slices_IndexFunc_SSint_Sint #[s1.v, (.func (.func f2) u3 w4)] h R :=
  acalls mixed Try.func62 B_slices_IndexFunc_SSint_Sint O_slices_IndexFunc_SSint_Sint A_slices_IndexFunc_SSint_Sint (by kernel_rfl) ((E_slices_IndexFunc_SSint_Sint s1 f2 u3 w4 h R).mpr e)

def A_slices_ContainsFunc_SSint_Sint : Ann := fun r => []
def F_slices_ContainsFunc_SSint_Sint (s1 : Sl) (f2 : FuncId) (u3 w4 : Array Value) (h : Hp) (R : Value → Hp → Prop) : Prop :=
  c_slices_IndexFunc_SSint_Sint #[s1.v, (.func (.func f2) u3 w4)] h fun v7 h8 => ∃ (x9 : Int), v7 = (I x9) ∧ (R (.bool (decide (x9 ≥ 0))) h8)
theorem E_slices_ContainsFunc_SSint_Sint (s1 : Sl) (f2 : FuncId) (u3 w4 : Array Value) (h : Hp) (R : Value → Hp → Prop) : ABd PR Try.f34 A_slices_ContainsFunc_SSint_Sint #[s1.v, (.func (.func f2) u3 w4)] h R = F_slices_ContainsFunc_SSint_Sint s1 f2 u3 w4 h R := by kernel_rfl
theorem O_slices_ContainsFunc_SSint_Sint : okF PR 34 = true := by kernel_rfl
theorem B_slices_ContainsFunc_SSint_Sint : Try.f34.body.isSome = true := by kernel_rfl
theorem R_slices_ContainsFunc_SSint_Sint {s1 : Sl} {f2 : FuncId} {u3 w4 : Array Value} {h : Hp} {R : Value → Hp → Prop} (e : F_slices_ContainsFunc_SSint_Sint s1 f2 u3 w4 h R) : c_slices_ContainsFunc_SSint_Sint #[s1.v, (.func (.func f2) u3 w4)] h R :=
  acalls mixed Try.func34 B_slices_ContainsFunc_SSint_Sint O_slices_ContainsFunc_SSint_Sint A_slices_ContainsFunc_SSint_Sint (by kernel_rfl) ((E_slices_ContainsFunc_SSint_Sint s1 f2 u3 w4 h R).mpr e)

def A_slices_IndexFunc_Sint_int : Ann := fun r => if r = 2 then [(0, .slice 0), (1, .func #[] #[] false), (7, .int .i64), (8, .int .i64)] else []
def F_slices_IndexFunc_Sint_int (s1 : Sl) (f2 : FuncId) (u3 w4 : Array Value) (h : Hp) (R : Value → Hp → Prop) : Prop :=
  ALoop (fun vs9 h8 next10 => ∃ (s11 : Sl) (f12 : FuncId) (u13 w14 : Array Value) (x15 : Int) (x16 : Int), vs9 = [s11.v, (.func (.func f12) u13 w14), (I x15), (I x16)] ∧ (bsplit (decide (x16 < x15)) (∃ b22 o23 : Nat, s11.a = some (Addr.mk b22 o23 none) ∧ (0 : Int) ≤ x16 ∧ x16 < ((s11.n : Nat) : Int) ∧ (∃ (x24 : Int), Hp.cell h8 b22 (o23 + Int.toNat x16 * 1) = some (I x24) ∧ (ACalls PR f12 ((u13 ++ List.toArray [(I x24)]) ++ w14) h8 fun v25 h26 => ∃ (c27 : Bool), v25 = (.bool c27) ∧ (bsplit c27 (R (I x16) h26) (next10 [s11.v, (.func (.func f12) u13 w14), (I x15), (I (W (x16 + 1)))] h26))))) (R (I (-1)) h8))) [s1.v, (.func (.func f2) u3 w4), (I ((s1.n : Nat) : Int)), (I 0)] h
theorem E_slices_IndexFunc_Sint_int (s1 : Sl) (f2 : FuncId) (u3 w4 : Array Value) (h : Hp) (R : Value → Hp → Prop) : ABd PR Try.f74 A_slices_IndexFunc_Sint_int #[s1.v, (.func (.func f2) u3 w4)] h R = F_slices_IndexFunc_Sint_int s1 f2 u3 w4 h R := by kernel_rfl
theorem O_slices_IndexFunc_Sint_int : okF PR 74 = true := by kernel_rfl
theorem B_slices_IndexFunc_Sint_int : Try.f74.body.isSome = true := by kernel_rfl
theorem R_slices_IndexFunc_Sint_int {s1 : Sl} {f2 : FuncId} {u3 w4 : Array Value} {h : Hp} {R : Value → Hp → Prop} (e : F_slices_IndexFunc_Sint_int s1 f2 u3 w4 h R) : c_slices_IndexFunc_Sint_int #[s1.v, (.func (.func f2) u3 w4)] h R :=
  acalls mixed Try.func74 B_slices_IndexFunc_Sint_int O_slices_IndexFunc_Sint_int A_slices_IndexFunc_Sint_int (by kernel_rfl) ((E_slices_IndexFunc_Sint_int s1 f2 u3 w4 h R).mpr e)

def A_slices_ContainsFunc_Sint_int : Ann := fun r => []
def F_slices_ContainsFunc_Sint_int (s1 : Sl) (f2 : FuncId) (u3 w4 : Array Value) (h : Hp) (R : Value → Hp → Prop) : Prop :=
  c_slices_IndexFunc_Sint_int #[s1.v, (.func (.func f2) u3 w4)] h fun v7 h8 => ∃ (x9 : Int), v7 = (I x9) ∧ (R (.bool (decide (x9 ≥ 0))) h8)
theorem E_slices_ContainsFunc_Sint_int (s1 : Sl) (f2 : FuncId) (u3 w4 : Array Value) (h : Hp) (R : Value → Hp → Prop) : ABd PR Try.f63 A_slices_ContainsFunc_Sint_int #[s1.v, (.func (.func f2) u3 w4)] h R = F_slices_ContainsFunc_Sint_int s1 f2 u3 w4 h R := by kernel_rfl
theorem O_slices_ContainsFunc_Sint_int : okF PR 63 = true := by kernel_rfl
theorem B_slices_ContainsFunc_Sint_int : Try.f63.body.isSome = true := by kernel_rfl
theorem R_slices_ContainsFunc_Sint_int {s1 : Sl} {f2 : FuncId} {u3 w4 : Array Value} {h : Hp} {R : Value → Hp → Prop} (e : F_slices_ContainsFunc_Sint_int s1 f2 u3 w4 h R) : c_slices_ContainsFunc_Sint_int #[s1.v, (.func (.func f2) u3 w4)] h R :=
  acalls mixed Try.func63 B_slices_ContainsFunc_Sint_int O_slices_ContainsFunc_Sint_int A_slices_ContainsFunc_Sint_int (by kernel_rfl) ((E_slices_ContainsFunc_Sint_int s1 f2 u3 w4 h R).mpr e)

def A_impl_clauseOk_d1 : Ann := fun r => []
def F_impl_clauseOk_d1 (x1 : Int) (b2 o3 : Nat) (h : Hp) (R : Value → Hp → Prop) : Prop :=
  bsplit (x1 == 0) (R (.bool true) h) (∃ (x5 : Int), Hp.cell h b2 o3 = some (I x5) ∧ (∃ (x6 : Int), Hp.cell h b2 o3 = some (I x6) ∧ (c_impl_in #[(I x1), (I (W (0 - x5))), (I x6)] h fun v7 h8 => ∃ (c9 : Bool), v7 = (.bool c9) ∧ (R (.bool (!c9)) h8))))
theorem E_impl_clauseOk_d1 (x1 : Int) (b2 o3 : Nat) (h : Hp) (R : Value → Hp → Prop) : ABd PR Try.f64 A_impl_clauseOk_d1 #[(I x1), (.pointer (some (Addr.mk b2 o3 none)))] h R = F_impl_clauseOk_d1 x1 b2 o3 h R := by kernel_rfl
theorem O_impl_clauseOk_d1 : okF PR 64 = true := by kernel_rfl
theorem B_impl_clauseOk_d1 : Try.f64.body.isSome = true := by kernel_rfl
theorem R_impl_clauseOk_d1 {x1 : Int} {b2 o3 : Nat} {h : Hp} {R : Value → Hp → Prop} (e : F_impl_clauseOk_d1 x1 b2 o3 h R) : c_impl_clauseOk_d1 #[(I x1), (.pointer (some (Addr.mk b2 o3 none)))] h R :=
  acalls mixed Try.func64 B_impl_clauseOk_d1 O_impl_clauseOk_d1 A_impl_clauseOk_d1 (by kernel_rfl) ((E_impl_clauseOk_d1 x1 b2 o3 h R).mpr e)

def A_impl_clauseOk : Ann := fun r => []
def F_impl_clauseOk (x1 : Int) (s2 : Sl) (h : Hp) (R : Value → Hp → Prop) : Prop :=
  ∀ b4 : Nat, h b4 = none → setH (h.row b4 [(I x1)] 1) fun h5 => bsplit (decide (((s2.n : Nat) : Int) ≤ 10)) (c_slices_ContainsFunc_Sint_int #[s2.v, (.func (.func i_impl_clauseOk_d1) #[] #[(.pointer (some (Addr.mk b4 0 none)))])] h5 fun v6 h7 => ∃ (c8 : Bool), v6 = (.bool c8) ∧ (R (.bool (!c8)) h7)) (R (.bool false) h5)
theorem E_impl_clauseOk (x1 : Int) (s2 : Sl) (h : Hp) (R : Value → Hp → Prop) : ABd PR Try.f36 A_impl_clauseOk #[(I x1), s2.v] h R = F_impl_clauseOk x1 s2 h R := by kernel_rfl
theorem O_impl_clauseOk : okF PR 36 = true := by kernel_rfl
theorem B_impl_clauseOk : Try.f36.body.isSome = true := by kernel_rfl
theorem R_impl_clauseOk {x1 : Int} {s2 : Sl} {h : Hp} {R : Value → Hp → Prop} (e : F_impl_clauseOk x1 s2 h R) : c_impl_clauseOk #[(I x1), s2.v] h R :=
  acalls mixed Try.func36 B_impl_clauseOk O_impl_clauseOk A_impl_clauseOk (by kernel_rfl) ((E_impl_clauseOk x1 s2 h R).mpr e)

def A_impl_CnfOk_d1 : Ann := fun r => []
def F_impl_CnfOk_d1 (s1 : Sl) (b2 o3 : Nat) (h : Hp) (R : Value → Hp → Prop) : Prop :=
  ∃ (x6 : Int), Hp.cell h b2 o3 = some (I x6) ∧ (c_impl_clauseOk #[(I x6), s1.v] h fun v7 h8 => ∃ (c9 : Bool), v7 = (.bool c9) ∧ (R (.bool (!c9)) h8))
theorem E_impl_CnfOk_d1 (s1 : Sl) (b2 o3 : Nat) (h : Hp) (R : Value → Hp → Prop) : ABd PR Try.f35 A_impl_CnfOk_d1 #[s1.v, (.pointer (some (Addr.mk b2 o3 none)))] h R = F_impl_CnfOk_d1 s1 b2 o3 h R := by kernel_rfl
theorem O_impl_CnfOk_d1 : okF PR 35 = true := by kernel_rfl
theorem B_impl_CnfOk_d1 : Try.f35.body.isSome = true := by kernel_rfl
theorem R_impl_CnfOk_d1 {s1 : Sl} {b2 o3 : Nat} {h : Hp} {R : Value → Hp → Prop} (e : F_impl_CnfOk_d1 s1 b2 o3 h R) : c_impl_CnfOk_d1 #[s1.v, (.pointer (some (Addr.mk b2 o3 none)))] h R :=
  acalls mixed Try.func35 B_impl_CnfOk_d1 O_impl_CnfOk_d1 A_impl_CnfOk_d1 (by kernel_rfl) ((E_impl_CnfOk_d1 s1 b2 o3 h R).mpr e)

def A_impl_CnfOk : Ann := fun r => []
def F_impl_CnfOk (x1 : Int) (s2 : Sl) (h : Hp) (R : Value → Hp → Prop) : Prop :=
  ∀ b4 : Nat, h b4 = none → setH (h.row b4 [(I x1), s2.v] 2) fun h5 => ∃ (x6 : Int), Hp.cell h5 b4 0 = some (I x6) ∧ (c_impl_in #[(I x6), (I 1), (I 10)] h5 fun v7 h8 => ∃ (c9 : Bool), v7 = (.bool c9) ∧ (bsplit c9 (∃ (s10 : Sl), Hp.cell h8 b4 1 = some s10.v ∧ (bsplit (decide (((s10.n : Nat) : Int) ≤ 60)) (∃ (s11 : Sl), Hp.cell h8 b4 1 = some s11.v ∧ (c_slices_ContainsFunc_SSint_Sint #[s11.v, (.func (.func i_impl_CnfOk_d1) #[] #[(.pointer (some (Addr.mk b4 0 none)))])] h8 fun v12 h13 => ∃ (c14 : Bool), v12 = (.bool c14) ∧ (R (.bool (!c14)) h13))) (R (.bool false) h8))) (R (.bool false) h8)))
theorem E_impl_CnfOk (x1 : Int) (s2 : Sl) (h : Hp) (R : Value → Hp → Prop) : ABd PR Try.f12 A_impl_CnfOk #[(.agg #[(I x1), s2.v])] h R = F_impl_CnfOk x1 s2 h R := by kernel_rfl
theorem O_impl_CnfOk : okF PR 12 = true := by kernel_rfl
theorem B_impl_CnfOk : Try.f12.body.isSome = true := by kernel_rfl
theorem R_impl_CnfOk {x1 : Int} {s2 : Sl} {h : Hp} {R : Value → Hp → Prop} (e : F_impl_CnfOk x1 s2 h R) : c_impl_CnfOk #[(.agg #[(I x1), s2.v])] h R :=
  acalls mixed Try.func12 B_impl_CnfOk O_impl_CnfOk A_impl_CnfOk (by kernel_rfl) ((E_impl_CnfOk x1 s2 h R).mpr e)

def A_laws_eqIntS : Ann := fun r => if r = 4 then [(0, .slice 0), (1, .slice 0), (5, .int .i64)] else []
def F_laws_eqIntS (s1 : Sl) (s2 : Sl) (h : Hp) (R : Value → Hp → Prop) : Prop :=
  bsplit (((s1.n : Nat) : Int) != ((s2.n : Nat) : Int)) (R (.bool false) h) (ALoop (fun vs10 h9 next11 => ∃ (s12 : Sl) (s13 : Sl) (x14 : Int), vs10 = [s12.v, s13.v, (I x14)] ∧ (bsplit (decide (x14 < ((s12.n : Nat) : Int))) (∃ b19 o20 : Nat, s12.a = some (Addr.mk b19 o20 none) ∧ (0 : Int) ≤ x14 ∧ x14 < ((s12.n : Nat) : Int) ∧ (∃ b21 o22 : Nat, s13.a = some (Addr.mk b21 o22 none) ∧ (0 : Int) ≤ x14 ∧ x14 < ((s13.n : Nat) : Int) ∧ (∃ (x23 : Int), Hp.cell h9 b19 (o20 + Int.toNat x14 * 1) = some (I x23) ∧ (∃ (x24 : Int), Hp.cell h9 b21 (o22 + Int.toNat x14 * 1) = some (I x24) ∧ (bsplit (x23 != x24) (R (.bool false) h9) (next11 [s12.v, s13.v, (I (W (x14 + 1)))] h9)))))) (R (.bool true) h9))) [s1.v, s2.v, (I 0)] h)
theorem E_laws_eqIntS (s1 : Sl) (s2 : Sl) (h : Hp) (R : Value → Hp → Prop) : ABd PR Try.f65 A_laws_eqIntS #[s1.v, s2.v] h R = F_laws_eqIntS s1 s2 h R := by kernel_rfl
theorem O_laws_eqIntS : okF PR 65 = true := by kernel_rfl
theorem B_laws_eqIntS : Try.f65.body.isSome = true := by kernel_rfl
theorem R_laws_eqIntS {s1 : Sl} {s2 : Sl} {h : Hp} {R : Value → Hp → Prop} (e : F_laws_eqIntS s1 s2 h R) : c_laws_eqIntS #[s1.v, s2.v] h R :=
  acalls mixed Try.func65 B_laws_eqIntS O_laws_eqIntS A_laws_eqIntS (by kernel_rfl) ((E_laws_eqIntS s1 s2 h R).mpr e)

def A_laws_eqIntSS : Ann := fun r => if r = 4 then [(0, .slice 0), (1, .slice 0), (5, .int .i64)] else []
def F_laws_eqIntSS (s1 : Sl) (s2 : Sl) (h : Hp) (R : Value → Hp → Prop) : Prop :=
  bsplit (((s1.n : Nat) : Int) != ((s2.n : Nat) : Int)) (R (.bool false) h) (ALoop (fun vs10 h9 next11 => ∃ (s12 : Sl) (s13 : Sl) (x14 : Int), vs10 = [s12.v, s13.v, (I x14)] ∧ (bsplit (decide (x14 < ((s12.n : Nat) : Int))) (∃ b19 o20 : Nat, s12.a = some (Addr.mk b19 o20 none) ∧ (0 : Int) ≤ x14 ∧ x14 < ((s12.n : Nat) : Int) ∧ (∃ b21 o22 : Nat, s13.a = some (Addr.mk b21 o22 none) ∧ (0 : Int) ≤ x14 ∧ x14 < ((s13.n : Nat) : Int) ∧ (∃ (s23 : Sl), Hp.cell h9 b19 (o20 + Int.toNat x14 * 1) = some s23.v ∧ (∃ (s24 : Sl), Hp.cell h9 b21 (o22 + Int.toNat x14 * 1) = some s24.v ∧ (c_laws_eqIntS #[s23.v, s24.v] h9 fun v25 h26 => ∃ (c27 : Bool), v25 = (.bool c27) ∧ (bsplit (!c27) (R (.bool false) h26) (next11 [s12.v, s13.v, (I (W (x14 + 1)))] h26))))))) (R (.bool true) h9))) [s1.v, s2.v, (I 0)] h)
theorem E_laws_eqIntSS (s1 : Sl) (s2 : Sl) (h : Hp) (R : Value → Hp → Prop) : ABd PR Try.f37 A_laws_eqIntSS #[s1.v, s2.v] h R = F_laws_eqIntSS s1 s2 h R := by kernel_rfl
theorem O_laws_eqIntSS : okF PR 37 = true := by kernel_rfl
theorem B_laws_eqIntSS : Try.f37.body.isSome = true := by kernel_rfl
theorem R_laws_eqIntSS {s1 : Sl} {s2 : Sl} {h : Hp} {R : Value → Hp → Prop} (e : F_laws_eqIntSS s1 s2 h R) : c_laws_eqIntSS #[s1.v, s2.v] h R :=
  acalls mixed Try.func37 B_laws_eqIntSS O_laws_eqIntSS A_laws_eqIntSS (by kernel_rfl) ((E_laws_eqIntSS s1 s2 h R).mpr e)

def A_laws_eqCnf : Ann := fun r => []
def F_laws_eqCnf (x1 : Int) (s2 : Sl) (x3 : Int) (s4 : Sl) (h : Hp) (R : Value → Hp → Prop) : Prop :=
  ∀ b6 : Nat, h b6 = none → setH (h.row b6 [(I x1), s2.v] 2) fun h7 => ∀ b8 : Nat, h7 b8 = none → setH (h7.row b8 [(I x3), s4.v] 2) fun h9 => ∃ (x11 : Int), Hp.cell h9 b6 0 = some (I x11) ∧ (∃ (x12 : Int), Hp.cell h9 b8 0 = some (I x12) ∧ (bsplit (x11 != x12) (R (.bool false) h9) (∃ (s16 : Sl), Hp.cell h9 b6 1 = some s16.v ∧ (∃ (s17 : Sl), Hp.cell h9 b8 1 = some s17.v ∧ (c_laws_eqIntSS #[s16.v, s17.v] h9 fun v18 h19 => ∃ (c20 : Bool), v18 = (.bool c20) ∧ (bsplit (!c20) (R (.bool false) h19) (R (.bool true) h19)))))))
theorem E_laws_eqCnf (x1 : Int) (s2 : Sl) (x3 : Int) (s4 : Sl) (h : Hp) (R : Value → Hp → Prop) : ABd PR Try.f13 A_laws_eqCnf #[(.agg #[(I x1), s2.v]), (.agg #[(I x3), s4.v])] h R = F_laws_eqCnf x1 s2 x3 s4 h R := by kernel_rfl
theorem O_laws_eqCnf : okF PR 13 = true := by kernel_rfl
theorem B_laws_eqCnf : Try.f13.body.isSome = true := by kernel_rfl
theorem R_laws_eqCnf {x1 : Int} {s2 : Sl} {x3 : Int} {s4 : Sl} {h : Hp} {R : Value → Hp → Prop} (e : F_laws_eqCnf x1 s2 x3 s4 h R) : c_laws_eqCnf #[(.agg #[(I x1), s2.v]), (.agg #[(I x3), s4.v])] h R :=
  acalls mixed Try.func13 B_laws_eqCnf O_laws_eqCnf A_laws_eqCnf (by kernel_rfl) ((E_laws_eqCnf x1 s2 x3 s4 h R).mpr e)

def A_spec_l1Bit : Ann := fun r => []
def F_spec_l1Bit (x1 : Int) (x2 : Int) (h : Hp) (R : Value → Hp → Prop) : Prop :=
  if (IntKind.wrap .u64 (x2)) < 0 then False else (R (I (Int.tmod (shrW x1 (IntKind.wrap .u64 (x2))) 2)) h)
theorem E_spec_l1Bit (x1 : Int) (x2 : Int) (h : Hp) (R : Value → Hp → Prop) : ABd PR Try.f79 A_spec_l1Bit #[(I x1), (I x2)] h R = F_spec_l1Bit x1 x2 h R := by kernel_rfl
theorem O_spec_l1Bit : okF PR 79 = true := by kernel_rfl
theorem B_spec_l1Bit : Try.f79.body.isSome = true := by kernel_rfl
theorem R_spec_l1Bit {x1 : Int} {x2 : Int} {h : Hp} {R : Value → Hp → Prop} (e : F_spec_l1Bit x1 x2 h R) : c_spec_l1Bit #[(I x1), (I x2)] h R :=
  acalls mixed Try.func79 B_spec_l1Bit O_spec_l1Bit A_spec_l1Bit (by kernel_rfl) ((E_spec_l1Bit x1 x2 h R).mpr e)

def A_spec_l10True : Ann := fun r => []
def F_spec_l10True (x1 : Int) (x2 : Int) (h : Hp) (R : Value → Hp → Prop) : Prop :=
  bsplit (decide (x1 > 0)) (c_spec_l1Bit #[(I x2), (I (W (x1 - 1)))] h fun v7 h8 => ∃ (x9 : Int), v7 = (I x9) ∧ (R (.bool (x9 == 1)) h8)) (c_spec_l1Bit #[(I x2), (I (W ((W (0 - x1)) - 1)))] h fun v11 h12 => ∃ (x13 : Int), v11 = (I x13) ∧ (R (.bool (x13 == 0)) h12))
theorem E_spec_l10True (x1 : Int) (x2 : Int) (h : Hp) (R : Value → Hp → Prop) : ABd PR Try.f78 A_spec_l10True #[(I x1), (I x2)] h R = F_spec_l10True x1 x2 h R := by kernel_rfl
theorem O_spec_l10True : okF PR 78 = true := by kernel_rfl
theorem B_spec_l10True : Try.f78.body.isSome = true := by kernel_rfl
theorem R_spec_l10True {x1 : Int} {x2 : Int} {h : Hp} {R : Value → Hp → Prop} (e : F_spec_l10True x1 x2 h R) : c_spec_l10True #[(I x1), (I x2)] h R :=
  acalls mixed Try.func78 B_spec_l10True O_spec_l10True A_spec_l10True (by kernel_rfl) ((E_spec_l10True x1 x2 h R).mpr e)

def A_spec_l10Any : Ann := fun r => if r = 2 then [(0, .slice 0), (1, .int .i64), (5, .int .i64)] else []
def F_spec_l10Any (s1 : Sl) (x2 : Int) (h : Hp) (R : Value → Hp → Prop) : Prop :=
  ALoop (fun vs7 h6 next8 => ∃ (s9 : Sl) (x10 : Int) (x11 : Int), vs7 = [s9.v, (I x10), (I x11)] ∧ (bsplit (decide (x11 < ((s9.n : Nat) : Int))) (∃ b16 o17 : Nat, s9.a = some (Addr.mk b16 o17 none) ∧ (0 : Int) ≤ x11 ∧ x11 < ((s9.n : Nat) : Int) ∧ (∃ (x18 : Int), Hp.cell h6 b16 (o17 + Int.toNat x11 * 1) = some (I x18) ∧ (c_spec_l10True #[(I x18), (I x10)] h6 fun v19 h20 => ∃ (c21 : Bool), v19 = (.bool c21) ∧ (bsplit c21 (R (.bool true) h20) (next8 [s9.v, (I x10), (I (W (x11 + 1)))] h20))))) (R (.bool false) h6))) [s1.v, (I x2), (I 0)] h
theorem E_spec_l10Any (s1 : Sl) (x2 : Int) (h : Hp) (R : Value → Hp → Prop) : ABd PR Try.f69 A_spec_l10Any #[s1.v, (I x2)] h R = F_spec_l10Any s1 x2 h R := by kernel_rfl
theorem O_spec_l10Any : okF PR 69 = true := by kernel_rfl
theorem B_spec_l10Any : Try.f69.body.isSome = true := by kernel_rfl
theorem R_spec_l10Any {s1 : Sl} {x2 : Int} {h : Hp} {R : Value → Hp → Prop} (e : F_spec_l10Any s1 x2 h R) : c_spec_l10Any #[s1.v, (I x2)] h R :=
  acalls mixed Try.func69 B_spec_l10Any O_spec_l10Any A_spec_l10Any (by kernel_rfl) ((E_spec_l10Any s1 x2 h R).mpr e)

def A_spec_l10All : Ann := fun r => if r = 2 then [(1, .slice 0), (2, .int .i64), (3, .unsafePointer), (7, .int .i64)] else []
def F_spec_l10All (x1 : Int) (s2 : Sl) (s3 : Sl) (x4 : Int) (h : Hp) (R : Value → Hp → Prop) : Prop :=
  ∀ b6 : Nat, h b6 = none → setH (h.row b6 [(I x1), s2.v] 2) fun h7 => ALoop (fun vs11 h10 next12 => ∃ (s13 : Sl) (x14 : Int) (b15 o16 : Nat) (x17 : Int), vs11 = [s13.v, (I x14), (.pointer (some (Addr.mk b15 o16 none))), (I x17)] ∧ (∃ (s19 : Sl), Hp.cell h10 b15 (o16 + 1) = some s19.v ∧ (bsplit (decide (x17 < ((s19.n : Nat) : Int))) (joinP (fun (c32 : Bool) (h33 : Hp) => bsplit c32 (R (.bool false) h33) (next12 [s13.v, (I x14), (.pointer (some (Addr.mk b15 o16 none))), (I (W (x17 + 1)))] h33)) fun J37 => ∃ b22 o23 : Nat, s13.a = some (Addr.mk b22 o23 none) ∧ (0 : Int) ≤ x17 ∧ x17 < ((s13.n : Nat) : Int) ∧ (∃ (c24 : Bool), Hp.cell h10 b22 (o23 + Int.toNat x17 * 1) = some (.bool c24) ∧ (bsplit c24 (∃ (s25 : Sl), Hp.cell h10 b15 (o16 + 1) = some s25.v ∧ (∃ b26 o27 : Nat, s25.a = some (Addr.mk b26 o27 none) ∧ (0 : Int) ≤ x17 ∧ x17 < ((s25.n : Nat) : Int) ∧ (∃ (s28 : Sl), Hp.cell h10 b26 (o27 + Int.toNat x17 * 1) = some s28.v ∧ (c_spec_l10Any #[s28.v, (I x14)] h10 fun v29 h30 => ∃ (c31 : Bool), v29 = (.bool c31) ∧ (J37 (!c31) h30))))) (J37 false h10)))) (R (.bool true) h10)))) [s3.v, (I x4), (.pointer (some (Addr.mk b6 0 none))), (I 0)] h7
theorem E_spec_l10All (x1 : Int) (s2 : Sl) (s3 : Sl) (x4 : Int) (h : Hp) (R : Value → Hp → Prop) : ABd PR Try.f47 A_spec_l10All #[(.agg #[(I x1), s2.v]), s3.v, (I x4)] h R = F_spec_l10All x1 s2 s3 x4 h R := by kernel_rfl
theorem O_spec_l10All : okF PR 47 = true := by kernel_rfl
theorem B_spec_l10All : Try.f47.body.isSome = true := by kernel_rfl
theorem R_spec_l10All {x1 : Int} {s2 : Sl} {s3 : Sl} {x4 : Int} {h : Hp} {R : Value → Hp → Prop} (e : F_spec_l10All x1 s2 s3 x4 h R) : c_spec_l10All #[(.agg #[(I x1), s2.v]), s3.v, (I x4)] h R :=
  acalls mixed Try.func47 B_spec_l10All O_spec_l10All A_spec_l10All (by kernel_rfl) ((E_spec_l10All x1 s2 s3 x4 h R).mpr e)

def A_spec_l10Every : Ann := fun r => if r = 3 then [(3, .slice 0), (4, .int .i64)] else []
def F_spec_l10Every (x1 : Int) (s2 : Sl) (h : Hp) (R : Value → Hp → Prop) : Prop :=
  ∀ b4 : Nat, h b4 = none → setH (h.row b4 [(I x1), s2.v] 2) fun h5 => ∃ (s7 : Sl), Hp.cell h5 b4 1 = some s7.v ∧ ((0 : Int) ≤ ((s7.n : Nat) : Int) ∧ ((s7.n : Nat) : Int) ≤ ((s7.n : Nat) : Int) ∧ ((s7.n : Nat) : Int) * ((1 : Nat) : Int) ≤ 140737488355328 ∧ ((s7.n : Nat) : Int) ≤ 9223372036854775807 ∧ ∀ b8 : Nat, h5 b8 = none → setH (h5.row b8 (zeroRow #[(.bool false)] (Int.toNat ((s7.n : Nat) : Int) * 1)) (Int.toNat ((s7.n : Nat) : Int) * 1)) fun h9 => ALoop (fun vs13 h12 next14 => ∃ (s15 : Sl) (x16 : Int), vs13 = [s15.v, (I x16)] ∧ (bsplit (decide (x16 < ((s15.n : Nat) : Int))) (∃ b21 o22 : Nat, s15.a = some (Addr.mk b21 o22 none) ∧ (0 : Int) ≤ x16 ∧ x16 < ((s15.n : Nat) : Int) ∧ (∃ (cs23 : List Value) (z24 : Nat), h12 b21 = some (.inl ⟨cs23, z24, false⟩) ∧ (o22 + Int.toNat x16 * 1) + 1 ≤ List.length cs23 ∧ setH (h12.row b21 (lset cs23 (o22 + Int.toNat x16 * 1) [(.bool true)]) z24) fun h25 => next14 [s15.v, (I (W (x16 + 1)))] h25)) (R s15.v h12))) [(.slice (some (Addr.mk b8 0 none)) (Int.toNat ((s7.n : Nat) : Int)) (Int.toNat ((s7.n : Nat) : Int))), (I 0)] h9)
theorem E_spec_l10Every (x1 : Int) (s2 : Sl) (h : Hp) (R : Value → Hp → Prop) : ABd PR Try.f48 A_spec_l10Every #[(.agg #[(I x1), s2.v])] h R = F_spec_l10Every x1 s2 h R := by kernel_rfl
theorem O_spec_l10Every : okF PR 48 = true := by kernel_rfl
theorem B_spec_l10Every : Try.f48.body.isSome = true := by kernel_rfl
theorem R_spec_l10Every {x1 : Int} {s2 : Sl} {h : Hp} {R : Value → Hp → Prop} (e : F_spec_l10Every x1 s2 h R) : c_spec_l10Every #[(.agg #[(I x1), s2.v])] h R :=
  acalls mixed Try.func48 B_spec_l10Every O_spec_l10Every A_spec_l10Every (by kernel_rfl) ((E_spec_l10Every x1 s2 h R).mpr e)

def A_spec_CnfHolds : Ann := fun r => []
def F_spec_CnfHolds (x1 : Int) (s2 : Sl) (x3 : Int) (h : Hp) (R : Value → Hp → Prop) : Prop :=
  ∀ b5 : Nat, h b5 = none → setH (h.row b5 [(I x1), s2.v] 2) fun h6 => ∃ (x7 : Int), Hp.cell h6 b5 0 = some (I x7) ∧ (∃ (s8 : Sl), Hp.cell h6 b5 1 = some s8.v ∧ (c_spec_CnfOk #[(.agg #[(I x7), s8.v])] h6 fun v9 h10 => ∃ (c11 : Bool), v9 = (.bool c11) ∧ (bsplit c11 (∃ (x12 : Int), Hp.cell h10 b5 0 = some (I x12) ∧ (if (IntKind.wrap .u64 (x12)) < 0 then False else (c_spec_l1In #[(I x3), (I 0), (I (W ((shlW 1 (IntKind.wrap .u64 (x12))) - 1)))] h10 fun v13 h14 => ∃ (c15 : Bool), v13 = (.bool c15) ∧ (bsplit c15 (∃ (x16 : Int), Hp.cell h14 b5 0 = some (I x16) ∧ (∃ (s17 : Sl), Hp.cell h14 b5 1 = some s17.v ∧ (∃ (x18 : Int), Hp.cell h14 b5 0 = some (I x18) ∧ (∃ (s19 : Sl), Hp.cell h14 b5 1 = some s19.v ∧ (c_spec_l10Every #[(.agg #[(I x18), s19.v])] h14 fun v20 h21 => ∃ (s22 : Sl), v20 = s22.v ∧ (h21 b5 = h14 b5 ∧ (c_spec_l10All #[(.agg #[(I x16), s17.v]), s22.v, (I x3)] h21 fun v23 h24 => ∃ (c25 : Bool), v23 = (.bool c25) ∧ (R (.bool c25) h24)))))))) (h14 b5 = h14 b5 ∧ (R (.bool false) h14)))))) (h10 b5 = h10 b5 ∧ (R (.bool false) h10)))))
theorem E_spec_CnfHolds (x1 : Int) (s2 : Sl) (x3 : Int) (h : Hp) (R : Value → Hp → Prop) : ABd PR Try.f21 A_spec_CnfHolds #[(.agg #[(I x1), s2.v]), (I x3)] h R = F_spec_CnfHolds x1 s2 x3 h R := by kernel_rfl
theorem O_spec_CnfHolds : okF PR 21 = true := by kernel_rfl
theorem B_spec_CnfHolds : Try.f21.body.isSome = true := by kernel_rfl
theorem R_spec_CnfHolds {x1 : Int} {s2 : Sl} {x3 : Int} {h : Hp} {R : Value → Hp → Prop} (e : F_spec_CnfHolds x1 s2 x3 h R) : c_spec_CnfHolds #[(.agg #[(I x1), s2.v]), (I x3)] h R :=
  acalls mixed Try.func21 B_spec_CnfHolds O_spec_CnfHolds A_spec_CnfHolds (by kernel_rfl) ((E_spec_CnfHolds x1 s2 x3 h R).mpr e)

def A_impl_literal : Ann := fun r => []
def F_impl_literal (x1 : Int) (x2 : Int) (h : Hp) (R : Value → Hp → Prop) : Prop :=
  bsplit (decide (x1 < 0)) (if (W ((W (0 - x1)) - 1)) < 0 then False else (R (.bool ((andW (shrW x2 (W ((W (0 - x1)) - 1))) 1) == 0)) h)) (if (W (x1 - 1)) < 0 then False else (R (.bool ((andW (shrW x2 (W (x1 - 1))) 1) == 1)) h))
theorem E_impl_literal (x1 : Int) (x2 : Int) (h : Hp) (R : Value → Hp → Prop) : ABd PR Try.f72 A_impl_literal #[(I x1), (I x2)] h R = F_impl_literal x1 x2 h R := by kernel_rfl
theorem O_impl_literal : okF PR 72 = true := by kernel_rfl
theorem B_impl_literal : Try.f72.body.isSome = true := by kernel_rfl
theorem R_impl_literal {x1 : Int} {x2 : Int} {h : Hp} {R : Value → Hp → Prop} (e : F_impl_literal x1 x2 h R) : c_impl_literal #[(I x1), (I x2)] h R :=
  acalls mixed Try.func72 B_impl_literal O_impl_literal A_impl_literal (by kernel_rfl) ((E_impl_literal x1 x2 h R).mpr e)

def A_impl_clausesHold_d1_d1 : Ann := fun r => []
def F_impl_clausesHold_d1_d1 (x1 : Int) (b2 o3 : Nat) (h : Hp) (R : Value → Hp → Prop) : Prop :=
  ∃ (x6 : Int), Hp.cell h b2 o3 = some (I x6) ∧ (c_impl_literal #[(I x1), (I x6)] h fun v7 h8 => ∃ (c9 : Bool), v7 = (.bool c9) ∧ (R (.bool c9) h8))
theorem E_impl_clausesHold_d1_d1 (x1 : Int) (b2 o3 : Nat) (h : Hp) (R : Value → Hp → Prop) : ABd PR Try.f71 A_impl_clausesHold_d1_d1 #[(I x1), (.pointer (some (Addr.mk b2 o3 none)))] h R = F_impl_clausesHold_d1_d1 x1 b2 o3 h R := by kernel_rfl
theorem O_impl_clausesHold_d1_d1 : okF PR 71 = true := by kernel_rfl
theorem B_impl_clausesHold_d1_d1 : Try.f71.body.isSome = true := by kernel_rfl
theorem R_impl_clausesHold_d1_d1 {x1 : Int} {b2 o3 : Nat} {h : Hp} {R : Value → Hp → Prop} (e : F_impl_clausesHold_d1_d1 x1 b2 o3 h R) : c_impl_clausesHold_d1_d1 #[(I x1), (.pointer (some (Addr.mk b2 o3 none)))] h R :=
  acalls mixed Try.func71 B_impl_clausesHold_d1_d1 O_impl_clausesHold_d1_d1 A_impl_clausesHold_d1_d1 (by kernel_rfl) ((E_impl_clausesHold_d1_d1 x1 b2 o3 h R).mpr e)

def A_impl_clausesHold_d1 : Ann := fun r => []
def F_impl_clausesHold_d1 (s1 : Sl) (b2 o3 : Nat) (h : Hp) (R : Value → Hp → Prop) : Prop :=
  c_slices_ContainsFunc_Sint_int #[s1.v, (.func (.func i_impl_clausesHold_d1_d1) #[] #[(.pointer (some (Addr.mk b2 o3 none)))])] h fun v6 h7 => ∃ (c8 : Bool), v6 = (.bool c8) ∧ (R (.bool (!c8)) h7)
theorem E_impl_clausesHold_d1 (s1 : Sl) (b2 o3 : Nat) (h : Hp) (R : Value → Hp → Prop) : ABd PR Try.f70 A_impl_clausesHold_d1 #[s1.v, (.pointer (some (Addr.mk b2 o3 none)))] h R = F_impl_clausesHold_d1 s1 b2 o3 h R := by kernel_rfl
theorem O_impl_clausesHold_d1 : okF PR 70 = true := by kernel_rfl
theorem B_impl_clausesHold_d1 : Try.f70.body.isSome = true := by kernel_rfl
theorem R_impl_clausesHold_d1 {s1 : Sl} {b2 o3 : Nat} {h : Hp} {R : Value → Hp → Prop} (e : F_impl_clausesHold_d1 s1 b2 o3 h R) : c_impl_clausesHold_d1 #[s1.v, (.pointer (some (Addr.mk b2 o3 none)))] h R :=
  acalls mixed Try.func70 B_impl_clausesHold_d1 O_impl_clausesHold_d1 A_impl_clausesHold_d1 (by kernel_rfl) ((E_impl_clausesHold_d1 s1 b2 o3 h R).mpr e)

def A_impl_clausesHold : Ann := fun r => []
def F_impl_clausesHold (s1 : Sl) (x2 : Int) (h : Hp) (R : Value → Hp → Prop) : Prop :=
  ∀ b4 : Nat, h b4 = none → setH (h.row b4 [(I x2)] 1) fun h5 => c_slices_ContainsFunc_SSint_Sint #[s1.v, (.func (.func i_impl_clausesHold_d1) #[] #[(.pointer (some (Addr.mk b4 0 none)))])] h5 fun v7 h8 => ∃ (c9 : Bool), v7 = (.bool c9) ∧ (R (.bool (!c9)) h8)
theorem E_impl_clausesHold (s1 : Sl) (x2 : Int) (h : Hp) (R : Value → Hp → Prop) : ABd PR Try.f49 A_impl_clausesHold #[s1.v, (I x2)] h R = F_impl_clausesHold s1 x2 h R := by kernel_rfl
theorem O_impl_clausesHold : okF PR 49 = true := by kernel_rfl
theorem B_impl_clausesHold : Try.f49.body.isSome = true := by kernel_rfl
theorem R_impl_clausesHold {s1 : Sl} {x2 : Int} {h : Hp} {R : Value → Hp → Prop} (e : F_impl_clausesHold s1 x2 h R) : c_impl_clausesHold #[s1.v, (I x2)] h R :=
  acalls mixed Try.func49 B_impl_clausesHold O_impl_clausesHold A_impl_clausesHold (by kernel_rfl) ((E_impl_clausesHold s1 x2 h R).mpr e)

def A_impl_CnfHolds : Ann := fun r => []
def F_impl_CnfHolds (x1 : Int) (s2 : Sl) (x3 : Int) (h : Hp) (R : Value → Hp → Prop) : Prop :=
  ∀ b5 : Nat, h b5 = none → setH (h.row b5 [(I x1), s2.v] 2) fun h6 => ∃ (x7 : Int), Hp.cell h6 b5 0 = some (I x7) ∧ (∃ (s8 : Sl), Hp.cell h6 b5 1 = some s8.v ∧ (c_impl_CnfOk #[(.agg #[(I x7), s8.v])] h6 fun v9 h10 => ∃ (c11 : Bool), v9 = (.bool c11) ∧ (bsplit c11 (∃ (x12 : Int), Hp.cell h10 b5 0 = some (I x12) ∧ (if x12 < 0 then False else (c_impl_in #[(I x3), (I 0), (I (W ((shlW 1 x12) - 1)))] h10 fun v13 h14 => ∃ (c15 : Bool), v13 = (.bool c15) ∧ (bsplit c15 (∃ (s16 : Sl), Hp.cell h14 b5 1 = some s16.v ∧ (c_impl_clausesHold #[s16.v, (I x3)] h14 fun v17 h18 => ∃ (c19 : Bool), v17 = (.bool c19) ∧ (R (.bool c19) h18))) (R (.bool false) h14))))) (R (.bool false) h10))))
theorem E_impl_CnfHolds (x1 : Int) (s2 : Sl) (x3 : Int) (h : Hp) (R : Value → Hp → Prop) : ABd PR Try.f22 A_impl_CnfHolds #[(.agg #[(I x1), s2.v]), (I x3)] h R = F_impl_CnfHolds x1 s2 x3 h R := by kernel_rfl
theorem O_impl_CnfHolds : okF PR 22 = true := by kernel_rfl
theorem B_impl_CnfHolds : Try.f22.body.isSome = true := by kernel_rfl
theorem R_impl_CnfHolds {x1 : Int} {s2 : Sl} {x3 : Int} {h : Hp} {R : Value → Hp → Prop} (e : F_impl_CnfHolds x1 s2 x3 h R) : c_impl_CnfHolds #[(.agg #[(I x1), s2.v]), (I x3)] h R :=
  acalls mixed Try.func22 B_impl_CnfHolds O_impl_CnfHolds A_impl_CnfHolds (by kernel_rfl) ((E_impl_CnfHolds x1 s2 x3 h R).mpr e)

def A_laws_FnExactCnfHolds : Ann := fun r => []
def F_laws_FnExactCnfHolds (x1 : Int) (s2 : Sl) (x3 : Int) (h : Hp) (R : Value → Hp → Prop) : Prop :=
  ∀ b5 : Nat, h b5 = none → setH (h.row b5 [(I x1), s2.v] 2) fun h6 => ∃ (x9 : Int), Hp.cell h6 b5 0 = some (I x9) ∧ (∃ (s10 : Sl), Hp.cell h6 b5 1 = some s10.v ∧ (c_laws_szCnf #[(.agg #[(I x9), s10.v]), (I 1048576)] h6 fun v11 h12 => ∃ (x13 : Int), v11 = (I x13) ∧ (bsplit (decide (x13 < 0)) (R (.bool true) h12) (∃ (x18 : Int), Hp.cell h12 b5 0 = some (I x18) ∧ (∃ (s19 : Sl), Hp.cell h12 b5 1 = some s19.v ∧ (c_laws_toCnf #[(.agg #[(I x18), s19.v])] h12 fun v20 h21 => ∃ (x22 : Int) (s23 : Sl), v20 = (.agg #[(I x22), s23.v]) ∧ (c_spec_CnfHolds #[(.agg #[(I x22), s23.v]), (I x3)] h21 fun v24 h25 => ∃ (c26 : Bool), v24 = (.bool c26) ∧ (∃ (x28 : Int), Hp.cell h25 b5 0 = some (I x28) ∧ (∃ (s29 : Sl), Hp.cell h25 b5 1 = some s29.v ∧ (c_laws_toCnf #[(.agg #[(I x28), s29.v])] h25 fun v30 h31 => ∃ (x32 : Int) (s33 : Sl), v30 = (.agg #[(I x32), s33.v]) ∧ (∀ b34 : Nat, h31 b34 = none → setH (h31.row b34 [(I 0), (.slice none 0 0)] 2) fun h35 => ∃ (cs36 : List Value) (z37 : Nat), h35 b34 = some (.inl ⟨cs36, z37, false⟩) ∧ 0 + 2 ≤ List.length cs36 ∧ setH (h35.row b34 (lset cs36 0 [(I x32), s33.v]) z37) fun h38 => ∃ (x40 : Int), Hp.cell h38 b34 0 = some (I x40) ∧ (∃ (s41 : Sl), Hp.cell h38 b34 1 = some s41.v ∧ (c_impl_CnfHolds #[(.agg #[(I x40), s41.v]), (I x3)] h38 fun v42 h43 => ∃ (c44 : Bool), v42 = (.bool c44) ∧ (bsplit (!(c44 == c26)) (R (.bool false) h43) (∃ (x49 : Int), Hp.cell h43 b34 0 = some (I x49) ∧ (∃ (s50 : Sl), Hp.cell h43 b34 1 = some s50.v ∧ (∃ (x51 : Int), Hp.cell h43 b5 0 = some (I x51) ∧ (∃ (s52 : Sl), Hp.cell h43 b5 1 = some s52.v ∧ (c_laws_toCnf #[(.agg #[(I x51), s52.v])] h43 fun v53 h54 => ∃ (x55 : Int) (s56 : Sl), v53 = (.agg #[(I x55), s56.v]) ∧ (h54 b34 = h43 b34 ∧ (c_laws_eqCnf #[(.agg #[(I x49), s50.v]), (.agg #[(I x55), s56.v])] h54 fun v57 h58 => ∃ (c59 : Bool), v57 = (.bool c59) ∧ (bsplit (!c59) (R (.bool false) h58) (R (.bool true) h58)))))))))))))))))))))))
theorem E_laws_FnExactCnfHolds (x1 : Int) (s2 : Sl) (x3 : Int) (h : Hp) (R : Value → Hp → Prop) : ABd PR Try.f6 A_laws_FnExactCnfHolds #[(.agg #[(I x1), s2.v]), (I x3)] h R = F_laws_FnExactCnfHolds x1 s2 x3 h R := by kernel_rfl
theorem O_laws_FnExactCnfHolds : okF PR 6 = true := by kernel_rfl
theorem B_laws_FnExactCnfHolds : Try.f6.body.isSome = true := by kernel_rfl
theorem R_laws_FnExactCnfHolds {x1 : Int} {s2 : Sl} {x3 : Int} {h : Hp} {R : Value → Hp → Prop} (e : F_laws_FnExactCnfHolds x1 s2 x3 h R) : c_laws_FnExactCnfHolds #[(.agg #[(I x1), s2.v]), (I x3)] h R :=
  acalls mixed Try.func6 B_laws_FnExactCnfHolds O_laws_FnExactCnfHolds A_laws_FnExactCnfHolds (by kernel_rfl) ((E_laws_FnExactCnfHolds x1 s2 x3 h R).mpr e)

end Go.Lead
