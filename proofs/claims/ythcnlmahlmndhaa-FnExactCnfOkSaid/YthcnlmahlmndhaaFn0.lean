/- The walks of the functions, part 0, written by a program: what the abstract walk of each body comes to. No statement is proved here. -/
import Derived.Test.YthcnlmahlmndhaaFn
set_option maxRecDepth 100000
set_option linter.unusedVariables false
namespace Go.Lead
open Go Go.Proofs

def A_laws_szIntS : Ann := fun r => []
def F_laws_szIntS (s1 : Sl) (x2 : Int) (h : Hp) (R : Value → Hp → Prop) : Prop :=
  bsplit (decide ((W (x2 - ((s1.n : Nat) : Int))) < 0)) (R (I (-1)) h) (R (I (W (x2 - ((s1.n : Nat) : Int)))) h)
theorem E_laws_szIntS (s1 : Sl) (x2 : Int) (h : Hp) (R : Value → Hp → Prop) : ABd PR Try.f59 A_laws_szIntS #[s1.v, (I x2)] h R = F_laws_szIntS s1 x2 h R := by kernel_rfl
theorem O_laws_szIntS : okF PR 59 = true := by kernel_rfl
theorem B_laws_szIntS : Try.f59.body.isSome = true := by kernel_rfl
theorem R_laws_szIntS {s1 : Sl} {x2 : Int} {h : Hp} {R : Value → Hp → Prop} (e : F_laws_szIntS s1 x2 h R) : c_laws_szIntS #[s1.v, (I x2)] h R :=
  acalls mixed Try.func59 B_laws_szIntS O_laws_szIntS A_laws_szIntS (by kernel_rfl) ((E_laws_szIntS s1 x2 h R).mpr e)

def A_laws_szIntSS : Ann := fun r => if r = 5 then [(0, .slice 0), (1, .int .i64), (5, .int .i64)] else []
def F_laws_szIntSS (s1 : Sl) (x2 : Int) (h : Hp) (R : Value → Hp → Prop) : Prop :=
  bsplit (decide ((W (x2 - ((s1.n : Nat) : Int))) < 0)) (R (I (-1)) h) (ALoop (fun vs11 h10 next12 => ∃ (s13 : Sl) (x14 : Int) (x15 : Int), vs11 = [s13.v, (I x14), (I x15)] ∧ (bsplit (decide (x15 < ((s13.n : Nat) : Int))) (∃ b20 o21 : Nat, s13.a = some (Addr.mk b20 o21 none) ∧ (0 : Int) ≤ x15 ∧ x15 < ((s13.n : Nat) : Int) ∧ (∃ (s22 : Sl), Hp.cell h10 b20 (o21 + Int.toNat x15 * 1) = some s22.v ∧ (c_laws_szIntS #[s22.v, (I x14)] h10 fun v23 h24 => ∃ (x25 : Int), v23 = (I x25) ∧ (bsplit (decide (x25 < 0)) (R (I (-1)) h24) (next12 [s13.v, (I x25), (I (W (x15 + 1)))] h24))))) (R (I x14) h10))) [s1.v, (I (W (x2 - ((s1.n : Nat) : Int)))), (I 0)] h)
theorem E_laws_szIntSS (s1 : Sl) (x2 : Int) (h : Hp) (R : Value → Hp → Prop) : ABd PR Try.f29 A_laws_szIntSS #[s1.v, (I x2)] h R = F_laws_szIntSS s1 x2 h R := by kernel_rfl
theorem O_laws_szIntSS : okF PR 29 = true := by kernel_rfl
theorem B_laws_szIntSS : Try.f29.body.isSome = true := by kernel_rfl
theorem R_laws_szIntSS {s1 : Sl} {x2 : Int} {h : Hp} {R : Value → Hp → Prop} (e : F_laws_szIntSS s1 x2 h R) : c_laws_szIntSS #[s1.v, (I x2)] h R :=
  acalls mixed Try.func29 B_laws_szIntSS O_laws_szIntSS A_laws_szIntSS (by kernel_rfl) ((E_laws_szIntSS s1 x2 h R).mpr e)

def A_laws_szCnf : Ann := fun r => []
def F_laws_szCnf (x1 : Int) (s2 : Sl) (x3 : Int) (h : Hp) (R : Value → Hp → Prop) : Prop :=
  ∀ b5 : Nat, h b5 = none → setH (h.row b5 [(I x1), s2.v] 2) fun h6 => ∃ (s8 : Sl), Hp.cell h6 b5 1 = some s8.v ∧ (c_laws_szIntSS #[s8.v, (I x3)] h6 fun v9 h10 => ∃ (x11 : Int), v9 = (I x11) ∧ (bsplit (decide (x11 < 0)) (R (I (-1)) h10) (R (I x11) h10)))
theorem E_laws_szCnf (x1 : Int) (s2 : Sl) (x3 : Int) (h : Hp) (R : Value → Hp → Prop) : ABd PR Try.f9 A_laws_szCnf #[(.agg #[(I x1), s2.v]), (I x3)] h R = F_laws_szCnf x1 s2 x3 h R := by kernel_rfl
theorem O_laws_szCnf : okF PR 9 = true := by kernel_rfl
theorem B_laws_szCnf : Try.f9.body.isSome = true := by kernel_rfl
theorem R_laws_szCnf {x1 : Int} {s2 : Sl} {x3 : Int} {h : Hp} {R : Value → Hp → Prop} (e : F_laws_szCnf x1 s2 x3 h R) : c_laws_szCnf #[(.agg #[(I x1), s2.v]), (I x3)] h R :=
  acalls mixed Try.func9 B_laws_szCnf O_laws_szCnf A_laws_szCnf (by kernel_rfl) ((E_laws_szCnf x1 s2 x3 h R).mpr e)

def A_spec_l1In : Ann := fun r => []
def F_spec_l1In (x1 : Int) (x2 : Int) (x3 : Int) (h : Hp) (R : Value → Hp → Prop) : Prop :=
  bsplit (decide (x1 ≥ x2)) (R (.bool (decide (x1 ≤ x3))) h) (R (.bool false) h)
theorem E_spec_l1In (x1 : Int) (x2 : Int) (x3 : Int) (h : Hp) (R : Value → Hp → Prop) : ABd PR Try.f30 A_spec_l1In #[(I x1), (I x2), (I x3)] h R = F_spec_l1In x1 x2 x3 h R := by kernel_rfl
theorem O_spec_l1In : okF PR 30 = true := by kernel_rfl
theorem B_spec_l1In : Try.f30.body.isSome = true := by kernel_rfl
theorem R_spec_l1In {x1 : Int} {x2 : Int} {x3 : Int} {h : Hp} {R : Value → Hp → Prop} (e : F_spec_l1In x1 x2 x3 h R) : c_spec_l1In #[(I x1), (I x2), (I x3)] h R :=
  acalls mixed Try.func30 B_spec_l1In O_spec_l1In A_spec_l1In (by kernel_rfl) ((E_spec_l1In x1 x2 x3 h R).mpr e)

def A_spec_l10Literal : Ann := fun r => []
def F_spec_l10Literal (x1 : Int) (x2 : Int) (h : Hp) (R : Value → Hp → Prop) : Prop :=
  bsplit (x1 != 0) (c_spec_l1In #[(I x1), (I (W (0 - x2))), (I x2)] h fun v4 h5 => ∃ (c6 : Bool), v4 = (.bool c6) ∧ (R (.bool c6) h5)) (R (.bool false) h)
theorem E_spec_l10Literal (x1 : Int) (x2 : Int) (h : Hp) (R : Value → Hp → Prop) : ABd PR Try.f60 A_spec_l10Literal #[(I x1), (I x2)] h R = F_spec_l10Literal x1 x2 h R := by kernel_rfl
theorem O_spec_l10Literal : okF PR 60 = true := by kernel_rfl
theorem B_spec_l10Literal : Try.f60.body.isSome = true := by kernel_rfl
theorem R_spec_l10Literal {x1 : Int} {x2 : Int} {h : Hp} {R : Value → Hp → Prop} (e : F_spec_l10Literal x1 x2 h R) : c_spec_l10Literal #[(I x1), (I x2)] h R :=
  acalls mixed Try.func60 B_spec_l10Literal O_spec_l10Literal A_spec_l10Literal (by kernel_rfl) ((E_spec_l10Literal x1 x2 h R).mpr e)

def A_spec_l10Clause : Ann := fun r => if r = 4 then [(0, .slice 0), (1, .int .i64), (5, .int .i64)] else []
def F_spec_l10Clause (s1 : Sl) (x2 : Int) (h : Hp) (R : Value → Hp → Prop) : Prop :=
  bsplit (decide (((s1.n : Nat) : Int) > 10)) (R (.bool false) h) (ALoop (fun vs10 h9 next11 => ∃ (s12 : Sl) (x13 : Int) (x14 : Int), vs10 = [s12.v, (I x13), (I x14)] ∧ (bsplit (decide (x14 < ((s12.n : Nat) : Int))) (∃ b19 o20 : Nat, s12.a = some (Addr.mk b19 o20 none) ∧ (0 : Int) ≤ x14 ∧ x14 < ((s12.n : Nat) : Int) ∧ (∃ (x21 : Int), Hp.cell h9 b19 (o20 + Int.toNat x14 * 1) = some (I x21) ∧ (c_spec_l10Literal #[(I x21), (I x13)] h9 fun v22 h23 => ∃ (c24 : Bool), v22 = (.bool c24) ∧ (bsplit (!c24) (R (.bool false) h23) (next11 [s12.v, (I x13), (I (W (x14 + 1)))] h23))))) (R (.bool true) h9))) [s1.v, (I x2), (I 0)] h)
theorem E_spec_l10Clause (s1 : Sl) (x2 : Int) (h : Hp) (R : Value → Hp → Prop) : ABd PR Try.f31 A_spec_l10Clause #[s1.v, (I x2)] h R = F_spec_l10Clause s1 x2 h R := by kernel_rfl
theorem O_spec_l10Clause : okF PR 31 = true := by kernel_rfl
theorem B_spec_l10Clause : Try.f31.body.isSome = true := by kernel_rfl
theorem R_spec_l10Clause {s1 : Sl} {x2 : Int} {h : Hp} {R : Value → Hp → Prop} (e : F_spec_l10Clause s1 x2 h R) : c_spec_l10Clause #[s1.v, (I x2)] h R :=
  acalls mixed Try.func31 B_spec_l10Clause O_spec_l10Clause A_spec_l10Clause (by kernel_rfl) ((E_spec_l10Clause s1 x2 h R).mpr e)

def A_spec_CnfOk : Ann := fun r => if r = 4 then [(1, .unsafePointer), (3, .int .i64)] else []
def F_spec_CnfOk (x1 : Int) (s2 : Sl) (h : Hp) (R : Value → Hp → Prop) : Prop :=
  ∀ b4 : Nat, h b4 = none → setH (h.row b4 [(I x1), s2.v] 2) fun h5 => joinP (fun (c12 : Bool) (h13 : Hp) => bsplit c12 (R (.bool false) h13) (ALoop (fun vs19 h18 next20 => ∃ (b21 o22 : Nat) (x23 : Int), vs19 = [(.pointer (some (Addr.mk b21 o22 none))), (I x23)] ∧ (∃ (s25 : Sl), Hp.cell h18 b21 (o22 + 1) = some s25.v ∧ (bsplit (decide (x23 < ((s25.n : Nat) : Int))) (∃ (s29 : Sl), Hp.cell h18 b21 (o22 + 1) = some s29.v ∧ (∃ b30 o31 : Nat, s29.a = some (Addr.mk b30 o31 none) ∧ (0 : Int) ≤ x23 ∧ x23 < ((s29.n : Nat) : Int) ∧ (∃ (s32 : Sl), Hp.cell h18 b30 (o31 + Int.toNat x23 * 1) = some s32.v ∧ (∃ (x33 : Int), Hp.cell h18 b21 o22 = some (I x33) ∧ (c_spec_l10Clause #[s32.v, (I x33)] h18 fun v34 h35 => ∃ (c36 : Bool), v34 = (.bool c36) ∧ (bsplit (!c36) (R (.bool false) h35) (next20 [(.pointer (some (Addr.mk b21 o22 none))), (I (W (x23 + 1)))] h35))))))) (R (.bool true) h18)))) [(.pointer (some (Addr.mk b4 0 none))), (I 0)] h13)) fun J41 => ∃ (x7 : Int), Hp.cell h5 b4 0 = some (I x7) ∧ (c_spec_l1In #[(I x7), (I 1), (I 10)] h5 fun v8 h9 => ∃ (c10 : Bool), v8 = (.bool c10) ∧ (bsplit (!c10) (J41 true h9) (∃ (s11 : Sl), Hp.cell h9 b4 1 = some s11.v ∧ (J41 (decide (((s11.n : Nat) : Int) > 60)) h9))))
theorem E_spec_CnfOk (x1 : Int) (s2 : Sl) (h : Hp) (R : Value → Hp → Prop) : ABd PR Try.f10 A_spec_CnfOk #[(.agg #[(I x1), s2.v])] h R = F_spec_CnfOk x1 s2 h R := by kernel_rfl
theorem O_spec_CnfOk : okF PR 10 = true := by kernel_rfl
theorem B_spec_CnfOk : Try.f10.body.isSome = true := by kernel_rfl
theorem R_spec_CnfOk {x1 : Int} {s2 : Sl} {h : Hp} {R : Value → Hp → Prop} (e : F_spec_CnfOk x1 s2 h R) : c_spec_CnfOk #[(.agg #[(I x1), s2.v])] h R :=
  acalls mixed Try.func10 B_spec_CnfOk O_spec_CnfOk A_spec_CnfOk (by kernel_rfl) ((E_spec_CnfOk x1 s2 h R).mpr e)

def A_laws_toIntS : Ann := fun r => if r = 3 then [(0, .slice 0), (3, .slice 0), (4, .int .i64)] else []
def F_laws_toIntS (s1 : Sl) (h : Hp) (R : Value → Hp → Prop) : Prop :=
  (0 : Int) ≤ ((s1.n : Nat) : Int) ∧ ((s1.n : Nat) : Int) ≤ ((s1.n : Nat) : Int) ∧ ((s1.n : Nat) : Int) * ((8 : Nat) : Int) ≤ 140737488355328 ∧ ((s1.n : Nat) : Int) ≤ 9223372036854775807 ∧ ∀ b4 : Nat, h b4 = none → setH (h.row b4 (zeroRow #[(I 0)] (Int.toNat ((s1.n : Nat) : Int) * 1)) (Int.toNat ((s1.n : Nat) : Int) * 1)) fun h5 => ALoop (fun vs9 h8 next10 => ∃ (s11 : Sl) (s12 : Sl) (x13 : Int), vs9 = [s11.v, s12.v, (I x13)] ∧ (bsplit (decide (x13 < ((s11.n : Nat) : Int))) (∃ b18 o19 : Nat, s11.a = some (Addr.mk b18 o19 none) ∧ (0 : Int) ≤ x13 ∧ x13 < ((s11.n : Nat) : Int) ∧ (∃ (x20 : Int), Hp.cell h8 b18 (o19 + Int.toNat x13 * 1) = some (I x20) ∧ (∃ b21 o22 : Nat, s12.a = some (Addr.mk b21 o22 none) ∧ (0 : Int) ≤ x13 ∧ x13 < ((s12.n : Nat) : Int) ∧ (∃ (cs23 : List Value) (z24 : Nat), h8 b21 = some (.inl ⟨cs23, z24, false⟩) ∧ (o22 + Int.toNat x13 * 1) + 1 ≤ List.length cs23 ∧ setH (h8.row b21 (lset cs23 (o22 + Int.toNat x13 * 1) [(I x20)]) z24) fun h25 => next10 [s11.v, s12.v, (I (W (x13 + 1)))] h25)))) (R s12.v h8))) [s1.v, (.slice (some (Addr.mk b4 0 none)) (Int.toNat ((s1.n : Nat) : Int)) (Int.toNat ((s1.n : Nat) : Int))), (I 0)] h5
theorem E_laws_toIntS (s1 : Sl) (h : Hp) (R : Value → Hp → Prop) : ABd PR Try.f61 A_laws_toIntS #[s1.v] h R = F_laws_toIntS s1 h R := by kernel_rfl
theorem O_laws_toIntS : okF PR 61 = true := by kernel_rfl
theorem B_laws_toIntS : Try.f61.body.isSome = true := by kernel_rfl
theorem R_laws_toIntS {s1 : Sl} {h : Hp} {R : Value → Hp → Prop} (e : F_laws_toIntS s1 h R) : c_laws_toIntS #[s1.v] h R :=
  acalls mixed Try.func61 B_laws_toIntS O_laws_toIntS A_laws_toIntS (by kernel_rfl) ((E_laws_toIntS s1 h R).mpr e)

def A_laws_toIntSS : Ann := fun r => if r = 3 then [(0, .slice 0), (3, .slice 0), (4, .int .i64)] else []
def F_laws_toIntSS (s1 : Sl) (h : Hp) (R : Value → Hp → Prop) : Prop :=
  (0 : Int) ≤ ((s1.n : Nat) : Int) ∧ ((s1.n : Nat) : Int) ≤ ((s1.n : Nat) : Int) ∧ ((s1.n : Nat) : Int) * ((24 : Nat) : Int) ≤ 140737488355328 ∧ ((s1.n : Nat) : Int) ≤ 9223372036854775807 ∧ ∀ b4 : Nat, h b4 = none → setH (h.row b4 (zeroRow #[(.slice none 0 0)] (Int.toNat ((s1.n : Nat) : Int) * 1)) (Int.toNat ((s1.n : Nat) : Int) * 1)) fun h5 => ALoop (fun vs9 h8 next10 => ∃ (s11 : Sl) (s12 : Sl) (x13 : Int), vs9 = [s11.v, s12.v, (I x13)] ∧ (bsplit (decide (x13 < ((s11.n : Nat) : Int))) (∃ b18 o19 : Nat, s11.a = some (Addr.mk b18 o19 none) ∧ (0 : Int) ≤ x13 ∧ x13 < ((s11.n : Nat) : Int) ∧ (∃ (s20 : Sl), Hp.cell h8 b18 (o19 + Int.toNat x13 * 1) = some s20.v ∧ (c_laws_toIntS #[s20.v] h8 fun v21 h22 => ∃ (s23 : Sl), v21 = s23.v ∧ (∃ b24 o25 : Nat, s12.a = some (Addr.mk b24 o25 none) ∧ (0 : Int) ≤ x13 ∧ x13 < ((s12.n : Nat) : Int) ∧ (∃ (cs26 : List Value) (z27 : Nat), h22 b24 = some (.inl ⟨cs26, z27, false⟩) ∧ (o25 + Int.toNat x13 * 1) + 1 ≤ List.length cs26 ∧ setH (h22.row b24 (lset cs26 (o25 + Int.toNat x13 * 1) [s23.v]) z27) fun h28 => next10 [s11.v, s12.v, (I (W (x13 + 1)))] h28))))) (R s12.v h8))) [s1.v, (.slice (some (Addr.mk b4 0 none)) (Int.toNat ((s1.n : Nat) : Int)) (Int.toNat ((s1.n : Nat) : Int))), (I 0)] h5
theorem E_laws_toIntSS (s1 : Sl) (h : Hp) (R : Value → Hp → Prop) : ABd PR Try.f32 A_laws_toIntSS #[s1.v] h R = F_laws_toIntSS s1 h R := by kernel_rfl
theorem O_laws_toIntSS : okF PR 32 = true := by kernel_rfl
theorem B_laws_toIntSS : Try.f32.body.isSome = true := by kernel_rfl
theorem R_laws_toIntSS {s1 : Sl} {h : Hp} {R : Value → Hp → Prop} (e : F_laws_toIntSS s1 h R) : c_laws_toIntSS #[s1.v] h R :=
  acalls mixed Try.func32 B_laws_toIntSS O_laws_toIntSS A_laws_toIntSS (by kernel_rfl) ((E_laws_toIntSS s1 h R).mpr e)

def A_laws_toCnf : Ann := fun r => []
def F_laws_toCnf (x1 : Int) (s2 : Sl) (h : Hp) (R : Value → Hp → Prop) : Prop :=
  ∀ b4 : Nat, h b4 = none → setH (h.row b4 [(I x1), s2.v] 2) fun h5 => ∀ b6 : Nat, h5 b6 = none → setH (h5.row b6 [(I 0), (.slice none 0 0)] 2) fun h7 => ∀ b9 : Nat, h7 b9 = none → setH (h7.row b9 [(I 0), (.slice none 0 0)] 2) fun h10 => ∃ (x12 : Int), Hp.cell h10 b4 0 = some (I x12) ∧ (∃ (cs13 : List Value) (z14 : Nat), h10 b9 = some (.inl ⟨cs13, z14, false⟩) ∧ 0 + 1 ≤ List.length cs13 ∧ setH (h10.row b9 (lset cs13 0 [(I x12)]) z14) fun h15 => ∃ (s17 : Sl), Hp.cell h15 b4 1 = some s17.v ∧ (c_laws_toIntSS #[s17.v] h15 fun v18 h19 => ∃ (s20 : Sl), v18 = s20.v ∧ (∃ (cs21 : List Value) (z22 : Nat), h19 b9 = some (.inl ⟨cs21, z22, false⟩) ∧ 1 + 1 ≤ List.length cs21 ∧ setH (h19.row b9 (lset cs21 1 [s20.v]) z22) fun h23 => ∃ (x25 : Int), Hp.cell h23 b9 0 = some (I x25) ∧ (∃ (s26 : Sl), Hp.cell h23 b9 1 = some s26.v ∧ (∃ (cs27 : List Value) (z28 : Nat), h23 b6 = some (.inl ⟨cs27, z28, false⟩) ∧ 0 + 2 ≤ List.length cs27 ∧ setH (h23.row b6 (lset cs27 0 [(I x25), s26.v]) z28) fun h29 => ∃ (x30 : Int), Hp.cell h29 b6 0 = some (I x30) ∧ (∃ (s31 : Sl), Hp.cell h29 b6 1 = some s31.v ∧ (R (.agg #[(I x30), s31.v]) h29)))))))
theorem E_laws_toCnf (x1 : Int) (s2 : Sl) (h : Hp) (R : Value → Hp → Prop) : ABd PR Try.f11 A_laws_toCnf #[(.agg #[(I x1), s2.v])] h R = F_laws_toCnf x1 s2 h R := by kernel_rfl
theorem O_laws_toCnf : okF PR 11 = true := by kernel_rfl
theorem B_laws_toCnf : Try.f11.body.isSome = true := by kernel_rfl
theorem R_laws_toCnf {x1 : Int} {s2 : Sl} {h : Hp} {R : Value → Hp → Prop} (e : F_laws_toCnf x1 s2 h R) : c_laws_toCnf #[(.agg #[(I x1), s2.v])] h R :=
  acalls mixed Try.func11 B_laws_toCnf O_laws_toCnf A_laws_toCnf (by kernel_rfl) ((E_laws_toCnf x1 s2 h R).mpr e)

def A_impl_in : Ann := fun r => []
def F_impl_in (x1 : Int) (x2 : Int) (x3 : Int) (h : Hp) (R : Value → Hp → Prop) : Prop :=
  bsplit (decide (x2 ≤ x1)) (R (.bool (decide (x1 ≤ x3))) h) (R (.bool false) h)
theorem E_impl_in (x1 : Int) (x2 : Int) (x3 : Int) (h : Hp) (R : Value → Hp → Prop) : ABd PR Try.f33 A_impl_in #[(I x1), (I x2), (I x3)] h R = F_impl_in x1 x2 x3 h R := by kernel_rfl
theorem O_impl_in : okF PR 33 = true := by kernel_rfl
theorem B_impl_in : Try.f33.body.isSome = true := by kernel_rfl
theorem R_impl_in {x1 : Int} {x2 : Int} {x3 : Int} {h : Hp} {R : Value → Hp → Prop} (e : F_impl_in x1 x2 x3 h R) : c_impl_in #[(I x1), (I x2), (I x3)] h R :=
  acalls mixed Try.func33 B_impl_in O_impl_in A_impl_in (by kernel_rfl) ((E_impl_in x1 x2 x3 h R).mpr e)

def A_slices_IndexFunc_SSint_Sint : Ann := fun r => if r = 2 then [(0, .slice 0), (1, .func #[] #[] false), (7, .int .i64), (8, .int .i64)] else []
def F_slices_IndexFunc_SSint_Sint (s1 : Sl) (f2 : FuncId) (u3 w4 : Array Value) (h : Hp) (R : Value → Hp → Prop) : Prop :=
  ALoop (fun vs9 h8 next10 => ∃ (s11 : Sl) (f12 : FuncId) (u13 w14 : Array Value) (x15 : Int) (x16 : Int), vs9 = [s11.v, (.func (.func f12) u13 w14), (I x15), (I x16)] ∧ (bsplit (decide (x16 < x15)) (∃ b22 o23 : Nat, s11.a = some (Addr.mk b22 o23 none) ∧ (0 : Int) ≤ x16 ∧ x16 < ((s11.n : Nat) : Int) ∧ (∃ (s24 : Sl), Hp.cell h8 b22 (o23 + Int.toNat x16 * 1) = some s24.v ∧ (ACalls PR f12 ((u13 ++ List.toArray [s24.v]) ++ w14) h8 fun v25 h26 => ∃ (c27 : Bool), v25 = (.bool c27) ∧ (bsplit c27 (R (I x16) h26) (next10 [s11.v, (.func (.func f12) u13 w14), (I x15), (I (W (x16 + 1)))] h26))))) (R (I (-1)) h8))) [s1.v, (.func (.func f2) u3 w4), (I ((s1.n : Nat) : Int)), (I 0)] h
theorem E_slices_IndexFunc_SSint_Sint (s1 : Sl) (f2 : FuncId) (u3 w4 : Array Value) (h : Hp) (R : Value → Hp → Prop) : ABd PR Try.f62 A_slices_IndexFunc_SSint_Sint #[s1.v, (.func (.func f2) u3 w4)] h R = F_slices_IndexFunc_SSint_Sint s1 f2 u3 w4 h R := by kernel_rfl
theorem O_slices_IndexFunc_SSint_Sint : okF PR 62 = true := by kernel_rfl
theorem B_slices_IndexFunc_SSint_Sint : Try.f62.body.isSome = true := by kernel_rfl
theorem R_slices_IndexFunc_SSint_Sint {s1 : Sl} {f2 : FuncId} {u3 w4 : Array Value} {h : Hp} {R : Value → Hp → Prop} (e : F_slices_IndexFunc_SSint_Sint s1 f2 u3 w4 h R) : c_slices_IndexFunc_SSint_Sint #[s1.v, (.func (.func f2) u3 w4)] h R :=
  acalls mixed Try.func62 B_slices_IndexFunc_SSint_Sint O_slices_IndexFunc_SSint_Sint A_slices_IndexFunc_SSint_Sint (by kernel_rfl) ((E_slices_IndexFunc_SSint_Sint s1 f2 u3 w4 h R).mpr e)

def A_slices_ContainsFunc_SSint_Sint : Ann := fun r => []
def F_slices_ContainsFunc_SSint_Sint (s1 : Sl) (f2 : FuncId) (u3 w4 : Array Value) (h : Hp) (R : Value → Hp → Prop) : Prop :=
  c_slices_IndexFunc_SSint_Sint #[s1.v, (.func (.func f2) u3 w4)] h fun v7 h8 => ∃ (x9 : Int), v7 = (I x9) ∧ (R (.bool (decide (x9 ≥ 0))) h8)
theorem E_slices_ContainsFunc_SSint_Sint (s1 : Sl) (f2 : FuncId) (u3 w4 : Array Value) (h : Hp) (R : Value → Hp → Prop) : ABd PR Try.f34 A_slices_ContainsFunc_SSint_Sint #[s1.v, (.func (.func f2) u3 w4)] h R = F_slices_ContainsFunc_SSint_Sint s1 f2 u3 w4 h R := by kernel_rfl
theorem O_slices_ContainsFunc_SSint_Sint : okF PR 34 = true := by kernel_rfl
theorem B_slices_ContainsFunc_SSint_Sint : Try.f34.body.isSome = true := by kernel_rfl
theorem R_slices_ContainsFunc_SSint_Sint {s1 : Sl} {f2 : FuncId} {u3 w4 : Array Value} {h : Hp} {R : Value → Hp → Prop} (e : F_slices_ContainsFunc_SSint_Sint s1 f2 u3 w4 h R) : c_slices_ContainsFunc_SSint_Sint #[s1.v, (.func (.func f2) u3 w4)] h R :=
  acalls mixed Try.func34 B_slices_ContainsFunc_SSint_Sint O_slices_ContainsFunc_SSint_Sint A_slices_ContainsFunc_SSint_Sint (by kernel_rfl) ((E_slices_ContainsFunc_SSint_Sint s1 f2 u3 w4 h R).mpr e)

def A_slices_IndexFunc_Sint_int : Ann := fun r => if r = 2 then [(0, .slice 0), (1, .func #[] #[] false), (7, .int .i64), (8, .int .i64)] else []
def F_slices_IndexFunc_Sint_int (s1 : Sl) (f2 : FuncId) (u3 w4 : Array Value) (h : Hp) (R : Value → Hp → Prop) : Prop :=
  ALoop (fun vs9 h8 next10 => ∃ (s11 : Sl) (f12 : FuncId) (u13 w14 : Array Value) (x15 : Int) (x16 : Int), vs9 = [s11.v, (.func (.func f12) u13 w14), (I x15), (I x16)] ∧ (bsplit (decide (x16 < x15)) (∃ b22 o23 : Nat, s11.a = some (Addr.mk b22 o23 none) ∧ (0 : Int) ≤ x16 ∧ x16 < ((s11.n : Nat) : Int) ∧ (∃ (x24 : Int), Hp.cell h8 b22 (o23 + Int.toNat x16 * 1) = some (I x24) ∧ (ACalls PR f12 ((u13 ++ List.toArray [(I x24)]) ++ w14) h8 fun v25 h26 => ∃ (c27 : Bool), v25 = (.bool c27) ∧ (bsplit c27 (R (I x16) h26) (next10 [s11.v, (.func (.func f12) u13 w14), (I x15), (I (W (x16 + 1)))] h26))))) (R (I (-1)) h8))) [s1.v, (.func (.func f2) u3 w4), (I ((s1.n : Nat) : Int)), (I 0)] h
theorem E_slices_IndexFunc_Sint_int (s1 : Sl) (f2 : FuncId) (u3 w4 : Array Value) (h : Hp) (R : Value → Hp → Prop) : ABd PR Try.f74 A_slices_IndexFunc_Sint_int #[s1.v, (.func (.func f2) u3 w4)] h R = F_slices_IndexFunc_Sint_int s1 f2 u3 w4 h R := by kernel_rfl
theorem O_slices_IndexFunc_Sint_int : okF PR 74 = true := by kernel_rfl
theorem B_slices_IndexFunc_Sint_int : Try.f74.body.isSome = true := by kernel_rfl
theorem R_slices_IndexFunc_Sint_int {s1 : Sl} {f2 : FuncId} {u3 w4 : Array Value} {h : Hp} {R : Value → Hp → Prop} (e : F_slices_IndexFunc_Sint_int s1 f2 u3 w4 h R) : c_slices_IndexFunc_Sint_int #[s1.v, (.func (.func f2) u3 w4)] h R :=
  acalls mixed Try.func74 B_slices_IndexFunc_Sint_int O_slices_IndexFunc_Sint_int A_slices_IndexFunc_Sint_int (by kernel_rfl) ((E_slices_IndexFunc_Sint_int s1 f2 u3 w4 h R).mpr e)

def A_slices_ContainsFunc_Sint_int : Ann := fun r => []
def F_slices_ContainsFunc_Sint_int (s1 : Sl) (f2 : FuncId) (u3 w4 : Array Value) (h : Hp) (R : Value → Hp → Prop) : Prop :=
  c_slices_IndexFunc_Sint_int #[s1.v, (.func (.func f2) u3 w4)] h fun v7 h8 => ∃ (x9 : Int), v7 = (I x9) ∧ (R (.bool (decide (x9 ≥ 0))) h8)
theorem E_slices_ContainsFunc_Sint_int (s1 : Sl) (f2 : FuncId) (u3 w4 : Array Value) (h : Hp) (R : Value → Hp → Prop) : ABd PR Try.f63 A_slices_ContainsFunc_Sint_int #[s1.v, (.func (.func f2) u3 w4)] h R = F_slices_ContainsFunc_Sint_int s1 f2 u3 w4 h R := by kernel_rfl
theorem O_slices_ContainsFunc_Sint_int : okF PR 63 = true := by kernel_rfl
theorem B_slices_ContainsFunc_Sint_int : Try.f63.body.isSome = true := by kernel_rfl
theorem R_slices_ContainsFunc_Sint_int {s1 : Sl} {f2 : FuncId} {u3 w4 : Array Value} {h : Hp} {R : Value → Hp → Prop} (e : F_slices_ContainsFunc_Sint_int s1 f2 u3 w4 h R) : c_slices_ContainsFunc_Sint_int #[s1.v, (.func (.func f2) u3 w4)] h R :=
  acalls mixed Try.func63 B_slices_ContainsFunc_Sint_int O_slices_ContainsFunc_Sint_int A_slices_ContainsFunc_Sint_int (by kernel_rfl) ((E_slices_ContainsFunc_Sint_int s1 f2 u3 w4 h R).mpr e)

def A_impl_clauseOk_d1 : Ann := fun r => []
def F_impl_clauseOk_d1 (x1 : Int) (b2 o3 : Nat) (h : Hp) (R : Value → Hp → Prop) : Prop :=
  bsplit (x1 == 0) (R (.bool true) h) (∃ (x5 : Int), Hp.cell h b2 o3 = some (I x5) ∧ (∃ (x6 : Int), Hp.cell h b2 o3 = some (I x6) ∧ (c_impl_in #[(I x1), (I (W (0 - x5))), (I x6)] h fun v7 h8 => ∃ (c9 : Bool), v7 = (.bool c9) ∧ (R (.bool (!c9)) h8))))
theorem E_impl_clauseOk_d1 (x1 : Int) (b2 o3 : Nat) (h : Hp) (R : Value → Hp → Prop) : ABd PR Try.f64 A_impl_clauseOk_d1 #[(I x1), (.pointer (some (Addr.mk b2 o3 none)))] h R = F_impl_clauseOk_d1 x1 b2 o3 h R := by kernel_rfl
theorem O_impl_clauseOk_d1 : okF PR 64 = true := by kernel_rfl
theorem B_impl_clauseOk_d1 : Try.f64.body.isSome = true := by kernel_rfl
theorem R_impl_clauseOk_d1 {x1 : Int} {b2 o3 : Nat} {h : Hp} {R : Value → Hp → Prop} (e : F_impl_clauseOk_d1 x1 b2 o3 h R) : c_impl_clauseOk_d1 #[(I x1), (.pointer (some (Addr.mk b2 o3 none)))] h R :=
  acalls mixed Try.func64 B_impl_clauseOk_d1 O_impl_clauseOk_d1 A_impl_clauseOk_d1 (by kernel_rfl) ((E_impl_clauseOk_d1 x1 b2 o3 h R).mpr e)

def A_impl_clauseOk : Ann := fun r => []
def F_impl_clauseOk (x1 : Int) (s2 : Sl) (h : Hp) (R : Value → Hp → Prop) : Prop :=
  ∀ b4 : Nat, h b4 = none → setH (h.row b4 [(I x1)] 1) fun h5 => bsplit (decide (((s2.n : Nat) : Int) ≤ 10)) (c_slices_ContainsFunc_Sint_int #[s2.v, (.func (.func i_impl_clauseOk_d1) #[] #[(.pointer (some (Addr.mk b4 0 none)))])] h5 fun v6 h7 => ∃ (c8 : Bool), v6 = (.bool c8) ∧ (R (.bool (!c8)) h7)) (R (.bool false) h5)
theorem E_impl_clauseOk (x1 : Int) (s2 : Sl) (h : Hp) (R : Value → Hp → Prop) : ABd PR Try.f36 A_impl_clauseOk #[(I x1), s2.v] h R = F_impl_clauseOk x1 s2 h R := by kernel_rfl
theorem O_impl_clauseOk : okF PR 36 = true := by kernel_rfl
theorem B_impl_clauseOk : Try.f36.body.isSome = true := by kernel_rfl
theorem R_impl_clauseOk {x1 : Int} {s2 : Sl} {h : Hp} {R : Value → Hp → Prop} (e : F_impl_clauseOk x1 s2 h R) : c_impl_clauseOk #[(I x1), s2.v] h R :=
  acalls mixed Try.func36 B_impl_clauseOk O_impl_clauseOk A_impl_clauseOk (by kernel_rfl) ((E_impl_clauseOk x1 s2 h R).mpr e)

def A_impl_CnfOk_d1 : Ann := fun r => []
def F_impl_CnfOk_d1 (s1 : Sl) (b2 o3 : Nat) (h : Hp) (R : Value → Hp → Prop) : Prop :=
  ∃ (x6 : Int), Hp.cell h b2 o3 = some (I x6) ∧ (c_impl_clauseOk #[(I x6), s1.v] h fun v7 h8 => ∃ (c9 : Bool), v7 = (.bool c9) ∧ (R (.bool (!c9)) h8))
theorem E_impl_CnfOk_d1 (s1 : Sl) (b2 o3 : Nat) (h : Hp) (R : Value → Hp → Prop) : ABd PR Try.f35 A_impl_CnfOk_d1 #[s1.v, (.pointer (some (Addr.mk b2 o3 none)))] h R = F_impl_CnfOk_d1 s1 b2 o3 h R := by kernel_rfl
theorem O_impl_CnfOk_d1 : okF PR 35 = true := by kernel_rfl
theorem B_impl_CnfOk_d1 : Try.f35.body.isSome = true := by kernel_rfl
theorem R_impl_CnfOk_d1 {s1 : Sl} {b2 o3 : Nat} {h : Hp} {R : Value → Hp → Prop} (e : F_impl_CnfOk_d1 s1 b2 o3 h R) : c_impl_CnfOk_d1 #[s1.v, (.pointer (some (Addr.mk b2 o3 none)))] h R :=
  acalls mixed Try.func35 B_impl_CnfOk_d1 O_impl_CnfOk_d1 A_impl_CnfOk_d1 (by kernel_rfl) ((E_impl_CnfOk_d1 s1 b2 o3 h R).mpr e)

def A_impl_CnfOk : Ann := fun r => []
def F_impl_CnfOk (x1 : Int) (s2 : Sl) (h : Hp) (R : Value → Hp → Prop) : Prop :=
  ∀ b4 : Nat, h b4 = none → setH (h.row b4 [(I x1), s2.v] 2) fun h5 => ∃ (x6 : Int), Hp.cell h5 b4 0 = some (I x6) ∧ (c_impl_in #[(I x6), (I 1), (I 10)] h5 fun v7 h8 => ∃ (c9 : Bool), v7 = (.bool c9) ∧ (bsplit c9 (∃ (s10 : Sl), Hp.cell h8 b4 1 = some s10.v ∧ (bsplit (decide (((s10.n : Nat) : Int) ≤ 60)) (∃ (s11 : Sl), Hp.cell h8 b4 1 = some s11.v ∧ (c_slices_ContainsFunc_SSint_Sint #[s11.v, (.func (.func i_impl_CnfOk_d1) #[] #[(.pointer (some (Addr.mk b4 0 none)))])] h8 fun v12 h13 => ∃ (c14 : Bool), v12 = (.bool c14) ∧ (R (.bool (!c14)) h13))) (R (.bool false) h8))) (R (.bool false) h8)))
theorem E_impl_CnfOk (x1 : Int) (s2 : Sl) (h : Hp) (R : Value → Hp → Prop) : ABd PR Try.f12 A_impl_CnfOk #[(.agg #[(I x1), s2.v])] h R = F_impl_CnfOk x1 s2 h R := by kernel_rfl
theorem O_impl_CnfOk : okF PR 12 = true := by kernel_rfl
theorem B_impl_CnfOk : Try.f12.body.isSome = true := by kernel_rfl
theorem R_impl_CnfOk {x1 : Int} {s2 : Sl} {h : Hp} {R : Value → Hp → Prop} (e : F_impl_CnfOk x1 s2 h R) : c_impl_CnfOk #[(.agg #[(I x1), s2.v])] h R :=
  acalls mixed Try.func12 B_impl_CnfOk O_impl_CnfOk A_impl_CnfOk (by kernel_rfl) ((E_impl_CnfOk x1 s2 h R).mpr e)

def A_laws_eqIntS : Ann := fun r => if r = 4 then [(0, .slice 0), (1, .slice 0), (5, .int .i64)] else []
def F_laws_eqIntS (s1 : Sl) (s2 : Sl) (h : Hp) (R : Value → Hp → Prop) : Prop :=
  bsplit (((s1.n : Nat) : Int) != ((s2.n : Nat) : Int)) (R (.bool false) h) (ALoop (fun vs10 h9 next11 => ∃ (s12 : Sl) (s13 : Sl) (x14 : Int), vs10 = [s12.v, s13.v, (I x14)] ∧ (bsplit (decide (x14 < ((s12.n : Nat) : Int))) (∃ b19 o20 : Nat, s12.a = some (Addr.mk b19 o20 none) ∧ (0 : Int) ≤ x14 ∧ x14 < ((s12.n : Nat) : Int) ∧ (∃ b21 o22 : Nat, s13.a = some (Addr.mk b21 o22 none) ∧ (0 : Int) ≤ x14 ∧ x14 < ((s13.n : Nat) : Int) ∧ (∃ (x23 : Int), Hp.cell h9 b19 (o20 + Int.toNat x14 * 1) = some (I x23) ∧ (∃ (x24 : Int), Hp.cell h9 b21 (o22 + Int.toNat x14 * 1) = some (I x24) ∧ (bsplit (x23 != x24) (R (.bool false) h9) (next11 [s12.v, s13.v, (I (W (x14 + 1)))] h9)))))) (R (.bool true) h9))) [s1.v, s2.v, (I 0)] h)
theorem E_laws_eqIntS (s1 : Sl) (s2 : Sl) (h : Hp) (R : Value → Hp → Prop) : ABd PR Try.f65 A_laws_eqIntS #[s1.v, s2.v] h R = F_laws_eqIntS s1 s2 h R := by kernel_rfl
theorem O_laws_eqIntS : okF PR 65 = true := by kernel_rfl
theorem B_laws_eqIntS : Try.f65.body.isSome = true := by kernel_rfl
theorem R_laws_eqIntS {s1 : Sl} {s2 : Sl} {h : Hp} {R : Value → Hp → Prop} (e : F_laws_eqIntS s1 s2 h R) : c_laws_eqIntS #[s1.v, s2.v] h R :=
  acalls mixed Try.func65 B_laws_eqIntS O_laws_eqIntS A_laws_eqIntS (by kernel_rfl) ((E_laws_eqIntS s1 s2 h R).mpr e)

def A_laws_eqIntSS : Ann := fun r => if r = 4 then [(0, .slice 0), (1, .slice 0), (5, .int .i64)] else []
def F_laws_eqIntSS (s1 : Sl) (s2 : Sl) (h : Hp) (R : Value → Hp → Prop) : Prop :=
  bsplit (((s1.n : Nat) : Int) != ((s2.n : Nat) : Int)) (R (.bool false) h) (ALoop (fun vs10 h9 next11 => ∃ (s12 : Sl) (s13 : Sl) (x14 : Int), vs10 = [s12.v, s13.v, (I x14)] ∧ (bsplit (decide (x14 < ((s12.n : Nat) : Int))) (∃ b19 o20 : Nat, s12.a = some (Addr.mk b19 o20 none) ∧ (0 : Int) ≤ x14 ∧ x14 < ((s12.n : Nat) : Int) ∧ (∃ b21 o22 : Nat, s13.a = some (Addr.mk b21 o22 none) ∧ (0 : Int) ≤ x14 ∧ x14 < ((s13.n : Nat) : Int) ∧ (∃ (s23 : Sl), Hp.cell h9 b19 (o20 + Int.toNat x14 * 1) = some s23.v ∧ (∃ (s24 : Sl), Hp.cell h9 b21 (o22 + Int.toNat x14 * 1) = some s24.v ∧ (c_laws_eqIntS #[s23.v, s24.v] h9 fun v25 h26 => ∃ (c27 : Bool), v25 = (.bool c27) ∧ (bsplit (!c27) (R (.bool false) h26) (next11 [s12.v, s13.v, (I (W (x14 + 1)))] h26))))))) (R (.bool true) h9))) [s1.v, s2.v, (I 0)] h)
theorem E_laws_eqIntSS (s1 : Sl) (s2 : Sl) (h : Hp) (R : Value → Hp → Prop) : ABd PR Try.f37 A_laws_eqIntSS #[s1.v, s2.v] h R = F_laws_eqIntSS s1 s2 h R := by kernel_rfl
theorem O_laws_eqIntSS : okF PR 37 = true := by kernel_rfl
theorem B_laws_eqIntSS : Try.f37.body.isSome = true := by kernel_rfl
theorem R_laws_eqIntSS {s1 : Sl} {s2 : Sl} {h : Hp} {R : Value → Hp → Prop} (e : F_laws_eqIntSS s1 s2 h R) : c_laws_eqIntSS #[s1.v, s2.v] h R :=
  acalls mixed Try.func37 B_laws_eqIntSS O_laws_eqIntSS A_laws_eqIntSS (by kernel_rfl) ((E_laws_eqIntSS s1 s2 h R).mpr e)

def A_laws_eqCnf : Ann := fun r => []
def F_laws_eqCnf (x1 : Int) (s2 : Sl) (x3 : Int) (s4 : Sl) (h : Hp) (R : Value → Hp → Prop) : Prop :=
  ∀ b6 : Nat, h b6 = none → setH (h.row b6 [(I x1), s2.v] 2) fun h7 => ∀ b8 : Nat, h7 b8 = none → setH (h7.row b8 [(I x3), s4.v] 2) fun h9 => ∃ (x11 : Int), Hp.cell h9 b6 0 = some (I x11) ∧ (∃ (x12 : Int), Hp.cell h9 b8 0 = some (I x12) ∧ (bsplit (x11 != x12) (R (.bool false) h9) (∃ (s16 : Sl), Hp.cell h9 b6 1 = some s16.v ∧ (∃ (s17 : Sl), Hp.cell h9 b8 1 = some s17.v ∧ (c_laws_eqIntSS #[s16.v, s17.v] h9 fun v18 h19 => ∃ (c20 : Bool), v18 = (.bool c20) ∧ (bsplit (!c20) (R (.bool false) h19) (R (.bool true) h19)))))))
theorem E_laws_eqCnf (x1 : Int) (s2 : Sl) (x3 : Int) (s4 : Sl) (h : Hp) (R : Value → Hp → Prop) : ABd PR Try.f13 A_laws_eqCnf #[(.agg #[(I x1), s2.v]), (.agg #[(I x3), s4.v])] h R = F_laws_eqCnf x1 s2 x3 s4 h R := by kernel_rfl
theorem O_laws_eqCnf : okF PR 13 = true := by kernel_rfl
theorem B_laws_eqCnf : Try.f13.body.isSome = true := by kernel_rfl
theorem R_laws_eqCnf {x1 : Int} {s2 : Sl} {x3 : Int} {s4 : Sl} {h : Hp} {R : Value → Hp → Prop} (e : F_laws_eqCnf x1 s2 x3 s4 h R) : c_laws_eqCnf #[(.agg #[(I x1), s2.v]), (.agg #[(I x3), s4.v])] h R :=
  acalls mixed Try.func13 B_laws_eqCnf O_laws_eqCnf A_laws_eqCnf (by kernel_rfl) ((E_laws_eqCnf x1 s2 x3 s4 h R).mpr e)

def A_laws_FnExactCnfOk : Ann := fun r => []
def F_laws_FnExactCnfOk (x1 : Int) (s2 : Sl) (h : Hp) (R : Value → Hp → Prop) : Prop :=
  ∀ b4 : Nat, h b4 = none → setH (h.row b4 [(I x1), s2.v] 2) fun h5 => ∃ (x8 : Int), Hp.cell h5 b4 0 = some (I x8) ∧ (∃ (s9 : Sl), Hp.cell h5 b4 1 = some s9.v ∧ (c_laws_szCnf #[(.agg #[(I x8), s9.v]), (I 1048576)] h5 fun v10 h11 => ∃ (x12 : Int), v10 = (I x12) ∧ (bsplit (decide (x12 < 0)) (R (.bool true) h11) (∃ (x17 : Int), Hp.cell h11 b4 0 = some (I x17) ∧ (∃ (s18 : Sl), Hp.cell h11 b4 1 = some s18.v ∧ (c_laws_toCnf #[(.agg #[(I x17), s18.v])] h11 fun v19 h20 => ∃ (x21 : Int) (s22 : Sl), v19 = (.agg #[(I x21), s22.v]) ∧ (c_spec_CnfOk #[(.agg #[(I x21), s22.v])] h20 fun v23 h24 => ∃ (c25 : Bool), v23 = (.bool c25) ∧ (∃ (x27 : Int), Hp.cell h24 b4 0 = some (I x27) ∧ (∃ (s28 : Sl), Hp.cell h24 b4 1 = some s28.v ∧ (c_laws_toCnf #[(.agg #[(I x27), s28.v])] h24 fun v29 h30 => ∃ (x31 : Int) (s32 : Sl), v29 = (.agg #[(I x31), s32.v]) ∧ (∀ b33 : Nat, h30 b33 = none → setH (h30.row b33 [(I 0), (.slice none 0 0)] 2) fun h34 => ∃ (cs35 : List Value) (z36 : Nat), h34 b33 = some (.inl ⟨cs35, z36, false⟩) ∧ 0 + 2 ≤ List.length cs35 ∧ setH (h34.row b33 (lset cs35 0 [(I x31), s32.v]) z36) fun h37 => ∃ (x39 : Int), Hp.cell h37 b33 0 = some (I x39) ∧ (∃ (s40 : Sl), Hp.cell h37 b33 1 = some s40.v ∧ (c_impl_CnfOk #[(.agg #[(I x39), s40.v])] h37 fun v41 h42 => ∃ (c43 : Bool), v41 = (.bool c43) ∧ (bsplit (!(c43 == c25)) (R (.bool false) h42) (∃ (x48 : Int), Hp.cell h42 b33 0 = some (I x48) ∧ (∃ (s49 : Sl), Hp.cell h42 b33 1 = some s49.v ∧ (∃ (x50 : Int), Hp.cell h42 b4 0 = some (I x50) ∧ (∃ (s51 : Sl), Hp.cell h42 b4 1 = some s51.v ∧ (c_laws_toCnf #[(.agg #[(I x50), s51.v])] h42 fun v52 h53 => ∃ (x54 : Int) (s55 : Sl), v52 = (.agg #[(I x54), s55.v]) ∧ (h53 b33 = h42 b33 ∧ (c_laws_eqCnf #[(.agg #[(I x48), s49.v]), (.agg #[(I x54), s55.v])] h53 fun v56 h57 => ∃ (c58 : Bool), v56 = (.bool c58) ∧ (bsplit (!c58) (R (.bool false) h57) (R (.bool true) h57)))))))))))))))))))))))
theorem E_laws_FnExactCnfOk (x1 : Int) (s2 : Sl) (h : Hp) (R : Value → Hp → Prop) : ABd PR Try.f3 A_laws_FnExactCnfOk #[(.agg #[(I x1), s2.v])] h R = F_laws_FnExactCnfOk x1 s2 h R := by kernel_rfl
theorem O_laws_FnExactCnfOk : okF PR 3 = true := by kernel_rfl
theorem B_laws_FnExactCnfOk : Try.f3.body.isSome = true := by kernel_rfl
theorem R_laws_FnExactCnfOk {x1 : Int} {s2 : Sl} {h : Hp} {R : Value → Hp → Prop} (e : F_laws_FnExactCnfOk x1 s2 h R) : c_laws_FnExactCnfOk #[(.agg #[(I x1), s2.v])] h R :=
  acalls mixed Try.func3 B_laws_FnExactCnfOk O_laws_FnExactCnfOk A_laws_FnExactCnfOk (by kernel_rfl) ((E_laws_FnExactCnfOk x1 s2 h R).mpr e)

def A_spec_l7Vars : Ann := fun r => []
def F_spec_l7Vars (x1 : Int) (h : Hp) (R : Value → Hp → Prop) : Prop :=
  c_spec_l1In #[(I x1), (I 0), (I 13)] h fun v4 h5 => ∃ (c6 : Bool), v4 = (.bool c6) ∧ (R (.bool c6) h5)
theorem E_spec_l7Vars (x1 : Int) (h : Hp) (R : Value → Hp → Prop) : ABd PR Try.f38 A_spec_l7Vars #[(I x1)] h R = F_spec_l7Vars x1 h R := by kernel_rfl
theorem O_spec_l7Vars : okF PR 38 = true := by kernel_rfl
theorem B_spec_l7Vars : Try.f38.body.isSome = true := by kernel_rfl
theorem R_spec_l7Vars {x1 : Int} {h : Hp} {R : Value → Hp → Prop} (e : F_spec_l7Vars x1 h R) : c_spec_l7Vars #[(I x1)] h R :=
  acalls mixed Try.func38 B_spec_l7Vars O_spec_l7Vars A_spec_l7Vars (by kernel_rfl) ((E_spec_l7Vars x1 h R).mpr e)

def A_spec_BddVar : Ann := fun r => []
def F_spec_BddVar (x1 : Int) (x2 : Int) (h : Hp) (R : Value → Hp → Prop) : Prop :=
  ∀ b4 : Nat, h b4 = none → setH (h.row b4 [(I 0), (.slice none 0 0), (I 0)] 3) fun h5 => joinP (fun (c13 : Bool) (h14 : Hp) => bsplit c13 (∃ (cs17 : List Value) (z18 : Nat), h14 b4 = some (.inl ⟨cs17, z18, false⟩) ∧ 0 + 3 ≤ List.length cs17 ∧ setH (h14.row b4 (lset cs17 0 [(I 0), (.slice none 0 0), (I 0)]) z18) fun h19 => ∃ (x20 : Int), Hp.cell h19 b4 0 = some (I x20) ∧ (∃ (s21 : Sl), Hp.cell h19 b4 1 = some s21.v ∧ (∃ (x22 : Int), Hp.cell h19 b4 2 = some (I x22) ∧ (R (.tuple #[(.agg #[(I x20), s21.v, (I x22)]), (.bool false)]) h19)))) (∀ b24 : Nat, h14 b24 = none → setH (h14.row b24 [(I x2), (I 0), (I 1)] 3) fun h25 => ∃ (cs26 : List Value) (z27 : Nat), h25 b4 = some (.inl ⟨cs26, z27, false⟩) ∧ 0 + 3 ≤ List.length cs26 ∧ setH (h25.row b4 (lset cs26 0 [(I x1), (.slice (some (Addr.mk b24 0 none)) 1 1), (I 2)]) z27) fun h28 => ∃ (x29 : Int), Hp.cell h28 b4 0 = some (I x29) ∧ (∃ (s30 : Sl), Hp.cell h28 b4 1 = some s30.v ∧ (∃ (x31 : Int), Hp.cell h28 b4 2 = some (I x31) ∧ (R (.tuple #[(.agg #[(I x29), s30.v, (I x31)]), (.bool true)]) h28))))) fun J32 => c_spec_l7Vars #[(I x1)] h5 fun v7 h8 => ∃ (c9 : Bool), v7 = (.bool c9) ∧ (bsplit (!c9) (J32 true h8) (c_spec_l1In #[(I x2), (I 0), (I (W (x1 - 1)))] h8 fun v10 h11 => ∃ (c12 : Bool), v10 = (.bool c12) ∧ (J32 (!c12) h11)))
theorem E_spec_BddVar (x1 : Int) (x2 : Int) (h : Hp) (R : Value → Hp → Prop) : ABd PR Try.f14 A_spec_BddVar #[(I x1), (I x2)] h R = F_spec_BddVar x1 x2 h R := by kernel_rfl
theorem O_spec_BddVar : okF PR 14 = true := by kernel_rfl
theorem B_spec_BddVar : Try.f14.body.isSome = true := by kernel_rfl
theorem R_spec_BddVar {x1 : Int} {x2 : Int} {h : Hp} {R : Value → Hp → Prop} (e : F_spec_BddVar x1 x2 h R) : c_spec_BddVar #[(I x1), (I x2)] h R :=
  acalls mixed Try.func14 B_spec_BddVar O_spec_BddVar A_spec_BddVar (by kernel_rfl) ((E_spec_BddVar x1 x2 h R).mpr e)

def A_impl_isVars : Ann := fun r => []
def F_impl_isVars (x1 : Int) (h : Hp) (R : Value → Hp → Prop) : Prop :=
  c_impl_in #[(I x1), (I 0), (I 13)] h fun v4 h5 => ∃ (c6 : Bool), v4 = (.bool c6) ∧ (R (.bool c6) h5)
theorem E_impl_isVars (x1 : Int) (h : Hp) (R : Value → Hp → Prop) : ABd PR Try.f39 A_impl_isVars #[(I x1)] h R = F_impl_isVars x1 h R := by kernel_rfl
theorem O_impl_isVars : okF PR 39 = true := by kernel_rfl
theorem B_impl_isVars : Try.f39.body.isSome = true := by kernel_rfl
theorem R_impl_isVars {x1 : Int} {h : Hp} {R : Value → Hp → Prop} (e : F_impl_isVars x1 h R) : c_impl_isVars #[(I x1)] h R :=
  acalls mixed Try.func39 B_impl_isVars O_impl_isVars A_impl_isVars (by kernel_rfl) ((E_impl_isVars x1 h R).mpr e)

def A_impl_bit : Ann := fun r => []
def F_impl_bit (c1 : Bool) (h : Hp) (R : Value → Hp → Prop) : Prop :=
  bsplit c1 (R (I 1) h) (R (I 0) h)
theorem E_impl_bit (c1 : Bool) (h : Hp) (R : Value → Hp → Prop) : ABd PR Try.f75 A_impl_bit #[(.bool c1)] h R = F_impl_bit c1 h R := by kernel_rfl
theorem O_impl_bit : okF PR 75 = true := by kernel_rfl
theorem B_impl_bit : Try.f75.body.isSome = true := by kernel_rfl
theorem R_impl_bit {c1 : Bool} {h : Hp} {R : Value → Hp → Prop} (e : F_impl_bit c1 h R) : c_impl_bit #[(.bool c1)] h R :=
  acalls mixed Try.func75 B_impl_bit O_impl_bit A_impl_bit (by kernel_rfl) ((E_impl_bit c1 h R).mpr e)

def A_impl_newTable : Ann := fun r => if r = 3 then [(1, .func #[] #[] false), (5, .slice 0), (11, .int .i64), (12, .int .i64)] else []
def F_impl_newTable (x1 : Int) (f2 : FuncId) (u3 w4 : Array Value) (h : Hp) (R : Value → Hp → Prop) : Prop :=
  if x1 < 0 then False else ((0 : Int) ≤ (shlW 1 x1) ∧ (shlW 1 x1) ≤ (shlW 1 x1) ∧ (shlW 1 x1) * ((1 : Nat) : Int) ≤ 140737488355328 ∧ (shlW 1 x1) ≤ 9223372036854775807 ∧ ∀ b7 : Nat, h b7 = none → setH (h.row b7 (zeroRow #[(.int .u8 0)] (Int.toNat (shlW 1 x1) * 1)) (Int.toNat (shlW 1 x1) * 1)) fun h8 => ALoop (fun vs12 h11 next13 => ∃ (f14 : FuncId) (u15 w16 : Array Value) (s17 : Sl) (x18 : Int) (x19 : Int), vs12 = [(.func (.func f14) u15 w16), s17.v, (I x18), (I x19)] ∧ (bsplit (decide (x19 < x18)) (ACalls PR f14 ((u15 ++ List.toArray [(I x19)]) ++ w16) h11 fun v25 h26 => ∃ (c27 : Bool), v25 = (.bool c27) ∧ (c_impl_bit #[(.bool c27)] h26 fun v28 h29 => ∃ (x30 : Int), v28 = (I x30) ∧ (∃ b31 o32 : Nat, s17.a = some (Addr.mk b31 o32 none) ∧ (0 : Int) ≤ x19 ∧ x19 < ((s17.n : Nat) : Int) ∧ (∃ (cs33 : List Value) (z34 : Nat), h29 b31 = some (.inl ⟨cs33, z34, false⟩) ∧ (o32 + Int.toNat x19 * 1) + 1 ≤ List.length cs33 ∧ setH (h29.row b31 (lset cs33 (o32 + Int.toNat x19 * 1) [(.int .u8 (IntKind.wrap .u8 (x30)))]) z34) fun h35 => next13 [(.func (.func f14) u15 w16), s17.v, (I x18), (I (W (x19 + 1)))] h35)))) (R s17.v h11))) [(.func (.func f2) u3 w4), (.slice (some (Addr.mk b7 0 none)) (Int.toNat (shlW 1 x1)) (Int.toNat (shlW 1 x1))), (I (((Int.toNat (shlW 1 x1)) : Nat) : Int)), (I 0)] h8)
theorem E_impl_newTable (x1 : Int) (f2 : FuncId) (u3 w4 : Array Value) (h : Hp) (R : Value → Hp → Prop) : ABd PR Try.f66 A_impl_newTable #[(I x1), (.func (.func f2) u3 w4)] h R = F_impl_newTable x1 f2 u3 w4 h R := by kernel_rfl
theorem O_impl_newTable : okF PR 66 = true := by kernel_rfl
theorem B_impl_newTable : Try.f66.body.isSome = true := by kernel_rfl
theorem R_impl_newTable {x1 : Int} {f2 : FuncId} {u3 w4 : Array Value} {h : Hp} {R : Value → Hp → Prop} (e : F_impl_newTable x1 f2 u3 w4 h R) : c_impl_newTable #[(I x1), (.func (.func f2) u3 w4)] h R :=
  acalls mixed Try.func66 B_impl_newTable O_impl_newTable A_impl_newTable (by kernel_rfl) ((E_impl_newTable x1 f2 u3 w4 h R).mpr e)

def A_impl_builder_build : Ann := fun r => if r = 9 then [(0, .pointer 0), (1, .slice 0), (2, .int .i64), (7, .string), (10, .slice 0), (11, .slice 0), (46, .int .i64), (47, .int .i64)] else []
def F_impl_builder_build (p1 : Option Addr) (s2 : Sl) (x3 : Int) (h : Hp) (R : Value → Hp → Prop) : Prop :=
  bsplit (((s2.n : Nat) : Int) == 1) (∃ b8 o9 : Nat, s2.a = some (Addr.mk b8 o9 none) ∧ (0 : Int) ≤ 0 ∧ 0 < ((s2.n : Nat) : Int) ∧ (∃ (x10 : Int), Hp.cell h b8 (o9 + Int.toNat 0 * 1) = some (.int .u8 x10) ∧ (R (I (W (x10))) h))) (∃ bs12 : List UInt8, slCells h s2.a s2.n (byteCells bs12) ∧ (∃ b14 o15 : Nat, p1 = some (Addr.mk b14 o15 none) ∧ (∃ (m16 : Option Nat), Hp.cell h b14 (o15 + 3) = some (.map m16) ∧ (∃ (r17 : Nat) (es18 : List (Value × Value)) (res19 : Option (Nat × Value)), m16 = some r17 ∧ h r17 = some (.inr es18) ∧ mlook (Instr.sameNow .string (.string ⟨bs12.toArray⟩)) es18 0 = some res19 ∧ ∃ (x20 : Int), Option.getD (Option.map (fun p => p.2) res19) (I 0) = (I x20) ∧ (bsplit (Option.isSome res19) (R (I x20) h) (joinP (fun (s33 : Sl) (s34 : Sl) (h35 : Hp) => ALoop (fun vs39 h38 next40 => ∃ (p41 : Option Addr) (s42 : Sl) (x43 : Int) (s44 : ByteArray) (s45 : Sl) (s46 : Sl) (x47 : Int) (x48 : Int), vs39 = [(.pointer p41), s42.v, (I x43), (.string s44), s45.v, s46.v, (I x47), (I x48)] ∧ (bsplit (decide (x48 < x47)) (∃ b54 o55 : Nat, s42.a = some (Addr.mk b54 o55 none) ∧ (0 : Int) ≤ (W (2 * x48)) ∧ (W (2 * x48)) < ((s42.n : Nat) : Int) ∧ (∃ b56 o57 : Nat, s42.a = some (Addr.mk b56 o57 none) ∧ (0 : Int) ≤ (W ((W (2 * x48)) + 1)) ∧ (W ((W (2 * x48)) + 1)) < ((s42.n : Nat) : Int) ∧ (∃ (x58 : Int), Hp.cell h38 b54 (o55 + Int.toNat (W (2 * x48)) * 1) = some (.int .u8 x58) ∧ (∃ (x59 : Int), Hp.cell h38 b56 (o57 + Int.toNat (W ((W (2 * x48)) + 1)) * 1) = some (.int .u8 x59) ∧ (∃ b60 o61 : Nat, s45.a = some (Addr.mk b60 o61 none) ∧ (0 : Int) ≤ x48 ∧ x48 < ((s45.n : Nat) : Int) ∧ (∃ (cs62 : List Value) (z63 : Nat), h38 b60 = some (.inl ⟨cs62, z63, false⟩) ∧ (o61 + Int.toNat x48 * 1) + 1 ≤ List.length cs62 ∧ setH (h38.row b60 (lset cs62 (o61 + Int.toNat x48 * 1) [(.int .u8 x58)]) z63) fun h64 => ∃ b65 o66 : Nat, s46.a = some (Addr.mk b65 o66 none) ∧ (0 : Int) ≤ x48 ∧ x48 < ((s46.n : Nat) : Int) ∧ (∃ (cs67 : List Value) (z68 : Nat), h64 b65 = some (.inl ⟨cs67, z68, false⟩) ∧ (o66 + Int.toNat x48 * 1) + 1 ≤ List.length cs67 ∧ setH (h64.row b65 (lset cs67 (o66 + Int.toNat x48 * 1) [(.int .u8 x59)]) z68) fun h69 => next40 [(.pointer p41), s42.v, (I x43), (.string s44), s45.v, s46.v, (I x47), (I (W (x48 + 1)))] h69))))))) (c_impl_builder_build #[(.pointer p41), s45.v, (I (W (x43 + 1)))] h38 fun v72 h73 => ∃ (x74 : Int), v72 = (I x74) ∧ (∃ bs76 : List UInt8, slCells h73 s45.a s45.n (byteCells bs76) ∧ (∃ bs77 : List UInt8, slCells h73 s46.a s46.n (byteCells bs77) ∧ (joinP (fun (x135 : Int) (h136 : Hp) => ∃ b138 o139 : Nat, p41 = some (Addr.mk b138 o139 none) ∧ (∃ (m140 : Option Nat), Hp.cell h136 b138 (o139 + 3) = some (.map m140) ∧ (∃ (r141 : Nat) (es142 : List (Value × Value)) (res143 : Option (Nat × Value)), m140 = some r141 ∧ h136 r141 = some (.inr es142) ∧ mlook (Instr.sameNow .string (.string s44)) es142 0 = some res143 ∧ True ∧ setH (h136.set r141 (some (.inr (mput es142 (.string s44) (I x135) res143)))) fun h144 => R (I x135) h144))) fun J146 => bsplit (!(ByteArray.toList (⟨bs76.toArray⟩ : ByteArray) == ByteArray.toList (⟨bs77.toArray⟩ : ByteArray))) (c_impl_builder_build #[(.pointer p41), s46.v, (I (W (x43 + 1)))] h73 fun v80 h81 => ∃ (x82 : Int), v80 = (I x82) ∧ (∀ b83 : Nat, h81 b83 = none → setH (h81.row b83 [(I 0), (I 0), (I 0)] 3) fun h84 => ∃ (cs85 : List Value) (z86 : Nat), h84 b83 = some (.inl ⟨cs85, z86, false⟩) ∧ 0 + 3 ≤ List.length cs85 ∧ setH (h84.row b83 (lset cs85 0 [(I x43), (I x74), (I x82)]) z86) fun h87 => ∃ b89 o90 : Nat, p41 = some (Addr.mk b89 o90 none) ∧ (∃ (m91 : Option Nat), Hp.cell h87 b89 (o90 + 4) = some (.map m91) ∧ (∃ (x92 : Int), Hp.cell h87 b83 0 = some (I x92) ∧ (∃ (x93 : Int), Hp.cell h87 b83 1 = some (I x93) ∧ (∃ (x94 : Int), Hp.cell h87 b83 2 = some (I x94) ∧ (∃ (r95 : Nat) (es96 : List (Value × Value)) (res97 : Option (Nat × Value)), m91 = some r95 ∧ h87 r95 = some (.inr es96) ∧ mlook (aeq PR 3 T_impl_BddNode (.agg #[(I x92), (I x93), (I x94)])) es96 0 = some res97 ∧ ∃ (x98 : Int), Option.getD (Option.map (fun p => p.2) res97) (I 0) = (I x98) ∧ (bsplit (!(Option.isSome res97)) (∃ b101 o102 : Nat, p41 = some (Addr.mk b101 o102 none) ∧ (∃ (s103 : Sl), Hp.cell h87 b101 (o102 + 1) = some s103.v ∧ (∃ b105 o106 : Nat, p41 = some (Addr.mk b105 o106 none) ∧ (∃ (s107 : Sl), Hp.cell h87 b105 (o106 + 1) = some s107.v ∧ (∃ (x108 : Int), Hp.cell h87 b83 0 = some (I x108) ∧ (∃ (x109 : Int), Hp.cell h87 b83 1 = some (I x109) ∧ (∃ (x110 : Int), Hp.cell h87 b83 2 = some (I x110) ∧ (∀ b111 : Nat, h87 b111 = none → setH (h87.row b111 [(I x108), (I x109), (I x110)] 3) fun h112 => h112 b105 = h87 b105 ∧ (aApp h112 s107.a s107.n s107.c (some (Addr.mk b111 0 none)) 1 3 24 fun a113 n114 k115 h116 => ∃ b117 o118 : Nat, p41 = some (Addr.mk b117 o118 none) ∧ (∃ (cs119 : List Value) (z120 : Nat), h116 b117 = some (.inl ⟨cs119, z120, false⟩) ∧ (o118 + 1) + 1 ≤ List.length cs119 ∧ setH (h116.row b117 (lset cs119 (o118 + 1) [(.slice a113 n114 k115)]) z120) fun h121 => ∃ b123 o124 : Nat, p41 = some (Addr.mk b123 o124 none) ∧ (∃ (m125 : Option Nat), Hp.cell h121 b123 (o124 + 4) = some (.map m125) ∧ (∃ (x126 : Int), Hp.cell h121 b83 0 = some (I x126) ∧ (∃ (x127 : Int), Hp.cell h121 b83 1 = some (I x127) ∧ (∃ (x128 : Int), Hp.cell h121 b83 2 = some (I x128) ∧ (∃ (r129 : Nat) (es130 : List (Value × Value)) (res131 : Option (Nat × Value)), m125 = some r129 ∧ h121 r129 = some (.inr es130) ∧ mlook (aeq PR 3 T_impl_BddNode (.agg #[(I x126), (I x127), (I x128)])) es130 0 = some res131 ∧ res131 = none ∧ setH (h121.set r129 (some (.inr (mput es130 (.agg #[(I x126), (I x127), (I x128)]) (I (W (((s103.n : Nat) : Int) + 2))) res131)))) fun h132 => J146 (W (((s103.n : Nat) : Int) + 2)) h132))))))))))))))) (J146 x98 h87))))))))) (J146 x74 h73))))))) [(.pointer p1), s2.v, (I x3), (.string ⟨bs12.toArray⟩), s33.v, s34.v, (I ((s33.n : Nat) : Int)), (I 0)] h35) fun J147 => ((0 : Int) ≤ (W (Int.tdiv ((s2.n : Nat) : Int) 2)) ∧ (W (Int.tdiv ((s2.n : Nat) : Int) 2)) ≤ (W (Int.tdiv ((s2.n : Nat) : Int) 2)) ∧ (W (Int.tdiv ((s2.n : Nat) : Int) 2)) * ((1 : Nat) : Int) ≤ 140737488355328 ∧ (W (Int.tdiv ((s2.n : Nat) : Int) 2)) ≤ 9223372036854775807 ∧ ∀ b25 : Nat, h b25 = none → setH (h.row b25 (zeroRow #[(.int .u8 0)] (Int.toNat (W (Int.tdiv ((s2.n : Nat) : Int) 2)) * 1)) (Int.toNat (W (Int.tdiv ((s2.n : Nat) : Int) 2)) * 1)) fun h26 => (0 : Int) ≤ (W (Int.tdiv ((s2.n : Nat) : Int) 2)) ∧ (W (Int.tdiv ((s2.n : Nat) : Int) 2)) ≤ (W (Int.tdiv ((s2.n : Nat) : Int) 2)) ∧ (W (Int.tdiv ((s2.n : Nat) : Int) 2)) * ((1 : Nat) : Int) ≤ 140737488355328 ∧ (W (Int.tdiv ((s2.n : Nat) : Int) 2)) ≤ 9223372036854775807 ∧ ∀ b27 : Nat, h26 b27 = none → setH (h26.row b27 (zeroRow #[(.int .u8 0)] (Int.toNat (W (Int.tdiv ((s2.n : Nat) : Int) 2)) * 1)) (Int.toNat (W (Int.tdiv ((s2.n : Nat) : Int) 2)) * 1)) fun h28 => J147 (Sl.mk (some (Addr.mk b25 0 none)) (Int.toNat (W (Int.tdiv ((s2.n : Nat) : Int) 2))) (Int.toNat (W (Int.tdiv ((s2.n : Nat) : Int) 2)))) (Sl.mk (some (Addr.mk b27 0 none)) (Int.toNat (W (Int.tdiv ((s2.n : Nat) : Int) 2))) (Int.toNat (W (Int.tdiv ((s2.n : Nat) : Int) 2)))) h28) ∧ ((0 : Int) ≤ (W (Int.tdiv ((s2.n : Nat) : Int) 2)) ∧ (W (Int.tdiv ((s2.n : Nat) : Int) 2)) ≤ (W (Int.tdiv ((s2.n : Nat) : Int) 2)) ∧ (W (Int.tdiv ((s2.n : Nat) : Int) 2)) * ((1 : Nat) : Int) ≤ 140737488355328 ∧ (W (Int.tdiv ((s2.n : Nat) : Int) 2)) ≤ 9223372036854775807 ∧ ∀ b29 : Nat, h b29 = none → setH (h.row b29 (zeroRow #[(.int .u8 0)] (Int.toNat (W (Int.tdiv ((s2.n : Nat) : Int) 2)) * 1)) (Int.toNat (W (Int.tdiv ((s2.n : Nat) : Int) 2)) * 1)) fun h30 => (0 : Int) ≤ (W (Int.tdiv ((s2.n : Nat) : Int) 2)) ∧ (W (Int.tdiv ((s2.n : Nat) : Int) 2)) ≤ (W (Int.tdiv ((s2.n : Nat) : Int) 2)) ∧ (W (Int.tdiv ((s2.n : Nat) : Int) 2)) * ((1 : Nat) : Int) ≤ 140737488355328 ∧ (W (Int.tdiv ((s2.n : Nat) : Int) 2)) ≤ 9223372036854775807 ∧ ∀ b31 : Nat, h30 b31 = none → setH (h30.row b31 (zeroRow #[(.int .u8 0)] (Int.toNat (W (Int.tdiv ((s2.n : Nat) : Int) 2)) * 1)) (Int.toNat (W (Int.tdiv ((s2.n : Nat) : Int) 2)) * 1)) fun h32 => J147 (Sl.mk (some (Addr.mk b31 0 none)) (Int.toNat (W (Int.tdiv ((s2.n : Nat) : Int) 2))) (Int.toNat (W (Int.tdiv ((s2.n : Nat) : Int) 2)))) (Sl.mk (some (Addr.mk b29 0 none)) (Int.toNat (W (Int.tdiv ((s2.n : Nat) : Int) 2))) (Int.toNat (W (Int.tdiv ((s2.n : Nat) : Int) 2)))) h32)))))))
theorem E_impl_builder_build (p1 : Option Addr) (s2 : Sl) (x3 : Int) (h : Hp) (R : Value → Hp → Prop) : ABd PR Try.f76 A_impl_builder_build #[(.pointer p1), s2.v, (I x3)] h R = F_impl_builder_build p1 s2 x3 h R := by kernel_rfl
theorem O_impl_builder_build : okF PR 76 = true := by kernel_rfl
theorem B_impl_builder_build : Try.f76.body.isSome = true := by kernel_rfl
theorem R_impl_builder_build {p1 : Option Addr} {s2 : Sl} {x3 : Int} {h : Hp} {R : Value → Hp → Prop} (e : F_impl_builder_build p1 s2 x3 h R) : c_impl_builder_build #[(.pointer p1), s2.v, (I x3)] h R :=
  acalls mixed Try.func76 B_impl_builder_build O_impl_builder_build A_impl_builder_build (by kernel_rfl) ((E_impl_builder_build p1 s2 x3 h R).mpr e)

def A_impl_Bdd_clone : Ann := fun r => []
def F_impl_Bdd_clone (x1 : Int) (s2 : Sl) (x3 : Int) (h : Hp) (R : Value → Hp → Prop) : Prop :=
  ∀ b5 : Nat, h b5 = none → setH (h.row b5 [(I x1), s2.v, (I x3)] 3) fun h6 => ∀ b7 : Nat, h6 b7 = none → setH (h6.row b7 [(I 0), (.slice none 0 0), (I 0)] 3) fun h8 => ∃ (x10 : Int), Hp.cell h8 b5 0 = some (I x10) ∧ (∃ (s11 : Sl), Hp.cell h8 b5 1 = some s11.v ∧ (∃ (x12 : Int), Hp.cell h8 b5 2 = some (I x12) ∧ (aApp h8 none 0 0 s11.a s11.n 3 24 fun a13 n14 k15 h16 => h16 b5 = h8 b5 ∧ (h16 b5 = h8 b5 ∧ (∃ (cs17 : List Value) (z18 : Nat), h16 b7 = some (.inl ⟨cs17, z18, false⟩) ∧ 0 + 3 ≤ List.length cs17 ∧ setH (h16.row b7 (lset cs17 0 [(I x10), (.slice a13 n14 k15), (I x12)]) z18) fun h19 => ∃ (x20 : Int), Hp.cell h19 b7 0 = some (I x20) ∧ (∃ (s21 : Sl), Hp.cell h19 b7 1 = some s21.v ∧ (∃ (x22 : Int), Hp.cell h19 b7 2 = some (I x22) ∧ (R (.agg #[(I x20), s21.v, (I x22)]) h19))))))))
theorem E_impl_Bdd_clone (x1 : Int) (s2 : Sl) (x3 : Int) (h : Hp) (R : Value → Hp → Prop) : ABd PR Try.f77 A_impl_Bdd_clone #[(.agg #[(I x1), s2.v, (I x3)])] h R = F_impl_Bdd_clone x1 s2 x3 h R := by kernel_rfl
theorem O_impl_Bdd_clone : okF PR 77 = true := by kernel_rfl
theorem B_impl_Bdd_clone : Try.f77.body.isSome = true := by kernel_rfl
theorem R_impl_Bdd_clone {x1 : Int} {s2 : Sl} {x3 : Int} {h : Hp} {R : Value → Hp → Prop} (e : F_impl_Bdd_clone x1 s2 x3 h R) : c_impl_Bdd_clone #[(.agg #[(I x1), s2.v, (I x3)])] h R :=
  acalls mixed Try.func77 B_impl_Bdd_clone O_impl_Bdd_clone A_impl_Bdd_clone (by kernel_rfl) ((E_impl_Bdd_clone x1 s2 x3 h R).mpr e)

def A_impl_table_diagram : Ann := fun r => if r = 2 then [(0, .slice 0), (2, .unsafePointer), (4, .int .i64)] else []
def F_impl_table_diagram (s1 : Sl) (h : Hp) (R : Value → Hp → Prop) : Prop :=
  ∀ b3 : Nat, h b3 = none → setH (h.row b3 [(I 0), (.slice none 0 0), (I 0)] 3) fun h4 => ALoop (fun vs8 h7 next9 => ∃ (s10 : Sl) (b11 o12 : Nat) (x13 : Int), vs8 = [s10.v, (.pointer (some (Addr.mk b11 o12 none))), (I x13)] ∧ (if x13 < 0 then False else (bsplit (decide ((shlW 1 x13) < ((s10.n : Nat) : Int))) (next9 [s10.v, (.pointer (some (Addr.mk b11 o12 none))), (I (W (x13 + 1)))] h7) (∀ b19 : Nat, h7 b19 = none → setH (h7.set b19 (some (.inr []))) fun h20 => ∀ b21 : Nat, h20 b21 = none → setH (h20.set b21 (some (.inr []))) fun h22 => ∀ b23 : Nat, h22 b23 = none → setH (h22.row b23 [(I x13), (.slice none 0 0), (I 0), (.map (some b19)), (.map (some b21))] 5) fun h24 => c_impl_builder_build #[(.pointer (some (Addr.mk b23 0 none))), s10.v, (I 0)] h24 fun v26 h27 => ∃ (x28 : Int), v26 = (I x28) ∧ (∃ b29 o30 : Nat, (some (Addr.mk b23 0 none)) = some (Addr.mk b29 o30 none) ∧ (∃ (cs31 : List Value) (z32 : Nat), h27 b29 = some (.inl ⟨cs31, z32, false⟩) ∧ (o30 + 2) + 1 ≤ List.length cs31 ∧ setH (h27.row b29 (lset cs31 (o30 + 2) [(I x28)]) z32) fun h33 => ∃ b35 o36 : Nat, (some (Addr.mk b23 0 none)) = some (Addr.mk b35 o36 none) ∧ (∃ (s37 : Sl), Hp.cell h33 b35 (o36 + 1) = some s37.v ∧ (bsplit (decide (((s37.n : Nat) : Int) > 600)) (∃ (cs40 : List Value) (z41 : Nat), h33 b11 = some (.inl ⟨cs40, z41, false⟩) ∧ o12 + 3 ≤ List.length cs40 ∧ setH (h33.row b11 (lset cs40 o12 [(I 0), (.slice none 0 0), (I 0)]) z41) fun h42 => ∃ (x43 : Int), Hp.cell h42 b11 o12 = some (I x43) ∧ (∃ (s44 : Sl), Hp.cell h42 b11 (o12 + 1) = some s44.v ∧ (∃ (x45 : Int), Hp.cell h42 b11 (o12 + 2) = some (I x45) ∧ (R (.tuple #[(.agg #[(I x43), s44.v, (I x45)]), (.bool false)]) h42)))) (∃ b47 o48 : Nat, (some (Addr.mk b23 0 none)) = some (Addr.mk b47 o48 none) ∧ (∃ (x49 : Int), Hp.cell h33 b47 o48 = some (I x49) ∧ (∃ (s50 : Sl), Hp.cell h33 b47 (o48 + 1) = some s50.v ∧ (∃ (x51 : Int), Hp.cell h33 b47 (o48 + 2) = some (I x51) ∧ (c_impl_Bdd_clone #[(.agg #[(I x49), s50.v, (I x51)])] h33 fun v52 h53 => ∃ (x54 : Int) (s55 : Sl) (x56 : Int), v52 = (.agg #[(I x54), s55.v, (I x56)]) ∧ (∃ (cs57 : List Value) (z58 : Nat), h53 b11 = some (.inl ⟨cs57, z58, false⟩) ∧ o12 + 3 ≤ List.length cs57 ∧ setH (h53.row b11 (lset cs57 o12 [(I x54), s55.v, (I x56)]) z58) fun h59 => ∃ (x60 : Int), Hp.cell h59 b11 o12 = some (I x60) ∧ (∃ (s61 : Sl), Hp.cell h59 b11 (o12 + 1) = some s61.v ∧ (∃ (x62 : Int), Hp.cell h59 b11 (o12 + 2) = some (I x62) ∧ (R (.tuple #[(.agg #[(I x60), s61.v, (I x62)]), (.bool true)]) h59))))))))))))))))) [s1.v, (.pointer (some (Addr.mk b3 0 none))), (I 0)] h4
theorem E_impl_table_diagram (s1 : Sl) (h : Hp) (R : Value → Hp → Prop) : ABd PR Try.f67 A_impl_table_diagram #[s1.v] h R = F_impl_table_diagram s1 h R := by kernel_rfl
theorem O_impl_table_diagram : okF PR 67 = true := by kernel_rfl
theorem B_impl_table_diagram : Try.f67.body.isSome = true := by kernel_rfl
theorem R_impl_table_diagram {s1 : Sl} {h : Hp} {R : Value → Hp → Prop} (e : F_impl_table_diagram s1 h R) : c_impl_table_diagram #[s1.v] h R :=
  acalls mixed Try.func67 B_impl_table_diagram O_impl_table_diagram A_impl_table_diagram (by kernel_rfl) ((E_impl_table_diagram s1 h R).mpr e)

def A_impl_told : Ann := fun r => []
def F_impl_told (x1 : Int) (f2 : FuncId) (u3 w4 : Array Value) (h : Hp) (R : Value → Hp → Prop) : Prop :=
  ∀ b6 : Nat, h b6 = none → setH (h.row b6 [(I 0), (.slice none 0 0), (I 0)] 3) fun h7 => c_impl_isVars #[(I x1)] h7 fun v9 h10 => ∃ (c11 : Bool), v9 = (.bool c11) ∧ (bsplit (!c11) (∃ (cs14 : List Value) (z15 : Nat), h10 b6 = some (.inl ⟨cs14, z15, false⟩) ∧ 0 + 3 ≤ List.length cs14 ∧ setH (h10.row b6 (lset cs14 0 [(I 0), (.slice none 0 0), (I 0)]) z15) fun h16 => ∃ (x17 : Int), Hp.cell h16 b6 0 = some (I x17) ∧ (∃ (s18 : Sl), Hp.cell h16 b6 1 = some s18.v ∧ (∃ (x19 : Int), Hp.cell h16 b6 2 = some (I x19) ∧ (R (.tuple #[(.agg #[(I x17), s18.v, (I x19)]), (.bool false)]) h16)))) (c_impl_newTable #[(I x1), (.func (.func f2) u3 w4)] h10 fun v21 h22 => ∃ (s23 : Sl), v21 = s23.v ∧ (c_impl_table_diagram #[s23.v] h22 fun v24 h25 => ∃ (x26 : Int) (s27 : Sl) (x28 : Int) (c29 : Bool), v24 = (.tuple #[(.agg #[(I x26), s27.v, (I x28)]), (.bool c29)]) ∧ (∃ (cs30 : List Value) (z31 : Nat), h25 b6 = some (.inl ⟨cs30, z31, false⟩) ∧ 0 + 3 ≤ List.length cs30 ∧ setH (h25.row b6 (lset cs30 0 [(I x26), s27.v, (I x28)]) z31) fun h32 => ∃ (x33 : Int), Hp.cell h32 b6 0 = some (I x33) ∧ (∃ (s34 : Sl), Hp.cell h32 b6 1 = some s34.v ∧ (∃ (x35 : Int), Hp.cell h32 b6 2 = some (I x35) ∧ (R (.tuple #[(.agg #[(I x33), s34.v, (I x35)]), (.bool c29)]) h32)))))))
theorem E_impl_told (x1 : Int) (f2 : FuncId) (u3 w4 : Array Value) (h : Hp) (R : Value → Hp → Prop) : ABd PR Try.f40 A_impl_told #[(I x1), (.func (.func f2) u3 w4)] h R = F_impl_told x1 f2 u3 w4 h R := by kernel_rfl
theorem O_impl_told : okF PR 40 = true := by kernel_rfl
theorem B_impl_told : Try.f40.body.isSome = true := by kernel_rfl
theorem R_impl_told {x1 : Int} {f2 : FuncId} {u3 w4 : Array Value} {h : Hp} {R : Value → Hp → Prop} (e : F_impl_told x1 f2 u3 w4 h R) : c_impl_told #[(I x1), (.func (.func f2) u3 w4)] h R :=
  acalls mixed Try.func40 B_impl_told O_impl_told A_impl_told (by kernel_rfl) ((E_impl_told x1 f2 u3 w4 h R).mpr e)

def A_impl_BddVar_d1 : Ann := fun r => []
def F_impl_BddVar_d1 (x1 : Int) (b2 o3 : Nat) (h : Hp) (R : Value → Hp → Prop) : Prop :=
  ∃ (x6 : Int), Hp.cell h b2 o3 = some (I x6) ∧ (if x6 < 0 then False else (R (.bool ((andW (shrW x1 x6) 1) == 1)) h))
theorem E_impl_BddVar_d1 (x1 : Int) (b2 o3 : Nat) (h : Hp) (R : Value → Hp → Prop) : ABd PR Try.f41 A_impl_BddVar_d1 #[(I x1), (.pointer (some (Addr.mk b2 o3 none)))] h R = F_impl_BddVar_d1 x1 b2 o3 h R := by kernel_rfl
theorem O_impl_BddVar_d1 : okF PR 41 = true := by kernel_rfl
theorem B_impl_BddVar_d1 : Try.f41.body.isSome = true := by kernel_rfl
theorem R_impl_BddVar_d1 {x1 : Int} {b2 o3 : Nat} {h : Hp} {R : Value → Hp → Prop} (e : F_impl_BddVar_d1 x1 b2 o3 h R) : c_impl_BddVar_d1 #[(I x1), (.pointer (some (Addr.mk b2 o3 none)))] h R :=
  acalls mixed Try.func41 B_impl_BddVar_d1 O_impl_BddVar_d1 A_impl_BddVar_d1 (by kernel_rfl) ((E_impl_BddVar_d1 x1 b2 o3 h R).mpr e)

def A_impl_BddVar : Ann := fun r => []
def F_impl_BddVar (x1 : Int) (x2 : Int) (h : Hp) (R : Value → Hp → Prop) : Prop :=
  ∀ b4 : Nat, h b4 = none → setH (h.row b4 [(I x2)] 1) fun h5 => ∀ b6 : Nat, h5 b6 = none → setH (h5.row b6 [(I 0), (.slice none 0 0), (I 0)] 3) fun h7 => joinP (fun (c16 : Bool) (h17 : Hp) => bsplit c16 (∃ (cs20 : List Value) (z21 : Nat), h17 b6 = some (.inl ⟨cs20, z21, false⟩) ∧ 0 + 3 ≤ List.length cs20 ∧ setH (h17.row b6 (lset cs20 0 [(I 0), (.slice none 0 0), (I 0)]) z21) fun h22 => ∃ (x23 : Int), Hp.cell h22 b6 0 = some (I x23) ∧ (∃ (s24 : Sl), Hp.cell h22 b6 1 = some s24.v ∧ (∃ (x25 : Int), Hp.cell h22 b6 2 = some (I x25) ∧ (R (.tuple #[(.agg #[(I x23), s24.v, (I x25)]), (.bool false)]) h22)))) (c_impl_told #[(I x1), (.func (.func i_impl_BddVar_d1) #[] #[(.pointer (some (Addr.mk b4 0 none)))])] h17 fun v27 h28 => ∃ (x29 : Int) (s30 : Sl) (x31 : Int) (c32 : Bool), v27 = (.tuple #[(.agg #[(I x29), s30.v, (I x31)]), (.bool c32)]) ∧ (∃ (cs33 : List Value) (z34 : Nat), h28 b6 = some (.inl ⟨cs33, z34, false⟩) ∧ 0 + 3 ≤ List.length cs33 ∧ setH (h28.row b6 (lset cs33 0 [(I x29), s30.v, (I x31)]) z34) fun h35 => ∃ (x36 : Int), Hp.cell h35 b6 0 = some (I x36) ∧ (∃ (s37 : Sl), Hp.cell h35 b6 1 = some s37.v ∧ (∃ (x38 : Int), Hp.cell h35 b6 2 = some (I x38) ∧ (R (.tuple #[(.agg #[(I x36), s37.v, (I x38)]), (.bool c32)]) h35)))))) fun J39 => c_impl_isVars #[(I x1)] h7 fun v9 h10 => ∃ (c11 : Bool), v9 = (.bool c11) ∧ (bsplit (!c11) (J39 true h10) (∃ (x12 : Int), Hp.cell h10 b4 0 = some (I x12) ∧ (c_impl_in #[(I x12), (I 0), (I (W (x1 - 1)))] h10 fun v13 h14 => ∃ (c15 : Bool), v13 = (.bool c15) ∧ (J39 (!c15) h14))))
theorem E_impl_BddVar (x1 : Int) (x2 : Int) (h : Hp) (R : Value → Hp → Prop) : ABd PR Try.f15 A_impl_BddVar #[(I x1), (I x2)] h R = F_impl_BddVar x1 x2 h R := by kernel_rfl
theorem O_impl_BddVar : okF PR 15 = true := by kernel_rfl
theorem B_impl_BddVar : Try.f15.body.isSome = true := by kernel_rfl
theorem R_impl_BddVar {x1 : Int} {x2 : Int} {h : Hp} {R : Value → Hp → Prop} (e : F_impl_BddVar x1 x2 h R) : c_impl_BddVar #[(I x1), (I x2)] h R :=
  acalls mixed Try.func15 B_impl_BddVar O_impl_BddVar A_impl_BddVar (by kernel_rfl) ((E_impl_BddVar x1 x2 h R).mpr e)

def A_laws_eqBddNode : Ann := fun r => []
def F_laws_eqBddNode (x1 : Int) (x2 : Int) (x3 : Int) (x4 : Int) (x5 : Int) (x6 : Int) (h : Hp) (R : Value → Hp → Prop) : Prop :=
  ∀ b8 : Nat, h b8 = none → setH (h.row b8 [(I x1), (I x2), (I x3)] 3) fun h9 => ∀ b10 : Nat, h9 b10 = none → setH (h9.row b10 [(I x4), (I x5), (I x6)] 3) fun h11 => ∃ (x13 : Int), Hp.cell h11 b8 0 = some (I x13) ∧ (∃ (x14 : Int), Hp.cell h11 b10 0 = some (I x14) ∧ (bsplit (x13 != x14) (R (.bool false) h11) (∃ (x18 : Int), Hp.cell h11 b8 1 = some (I x18) ∧ (∃ (x19 : Int), Hp.cell h11 b10 1 = some (I x19) ∧ (bsplit (x18 != x19) (R (.bool false) h11) (∃ (x23 : Int), Hp.cell h11 b8 2 = some (I x23) ∧ (∃ (x24 : Int), Hp.cell h11 b10 2 = some (I x24) ∧ (bsplit (x23 != x24) (R (.bool false) h11) (R (.bool true) h11)))))))))
theorem E_laws_eqBddNode (x1 : Int) (x2 : Int) (x3 : Int) (x4 : Int) (x5 : Int) (x6 : Int) (h : Hp) (R : Value → Hp → Prop) : ABd PR Try.f68 A_laws_eqBddNode #[(.agg #[(I x1), (I x2), (I x3)]), (.agg #[(I x4), (I x5), (I x6)])] h R = F_laws_eqBddNode x1 x2 x3 x4 x5 x6 h R := by kernel_rfl
theorem O_laws_eqBddNode : okF PR 68 = true := by kernel_rfl
theorem B_laws_eqBddNode : Try.f68.body.isSome = true := by kernel_rfl
theorem R_laws_eqBddNode {x1 : Int} {x2 : Int} {x3 : Int} {x4 : Int} {x5 : Int} {x6 : Int} {h : Hp} {R : Value → Hp → Prop} (e : F_laws_eqBddNode x1 x2 x3 x4 x5 x6 h R) : c_laws_eqBddNode #[(.agg #[(I x1), (I x2), (I x3)]), (.agg #[(I x4), (I x5), (I x6)])] h R :=
  acalls mixed Try.func68 B_laws_eqBddNode O_laws_eqBddNode A_laws_eqBddNode (by kernel_rfl) ((E_laws_eqBddNode x1 x2 x3 x4 x5 x6 h R).mpr e)

end Go.Lead
