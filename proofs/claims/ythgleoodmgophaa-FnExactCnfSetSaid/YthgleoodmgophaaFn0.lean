/- The walks of the functions, part 0, written by a program: what the abstract walk of each body comes to. No statement is proved here. -/
import Derived.Test.YthgleoodmgophaaFn
set_option maxRecDepth 100000
set_option linter.unusedVariables false
namespace Go.Lead
open Go Go.Proofs

def A_spec_l1In : Ann := fun r => []
def F_spec_l1In (x1 : Int) (x2 : Int) (x3 : Int) (h : Hp) (R : Value → Hp → Prop) : Prop :=
  bsplit (decide (x1 ≥ x2)) (R (.bool (decide (x1 ≤ x3))) h) (R (.bool false) h)
theorem E_spec_l1In (x1 : Int) (x2 : Int) (x3 : Int) (h : Hp) (R : Value → Hp → Prop) : ABd PR Try.f53 A_spec_l1In #[(I x1), (I x2), (I x3)] h R = F_spec_l1In x1 x2 x3 h R := by kernel_rfl
theorem O_spec_l1In : okF PR 53 = true := by kernel_rfl
theorem B_spec_l1In : Try.f53.body.isSome = true := by kernel_rfl
theorem R_spec_l1In {x1 : Int} {x2 : Int} {x3 : Int} {h : Hp} {R : Value → Hp → Prop} (e : F_spec_l1In x1 x2 x3 h R) : c_spec_l1In #[(I x1), (I x2), (I x3)] h R :=
  acalls mixed Try.func53 B_spec_l1In O_spec_l1In A_spec_l1In (by kernel_rfl) ((E_spec_l1In x1 x2 x3 h R).mpr e)

def A_spec_l1Yes : Ann := fun r => []
def F_spec_l1Yes (c1 : Bool) (h : Hp) (R : Value → Hp → Prop) : Prop :=
  bsplit c1 (R (I 1) h) (R (I 0) h)
theorem E_spec_l1Yes (c1 : Bool) (h : Hp) (R : Value → Hp → Prop) : ABd PR Try.f111 A_spec_l1Yes #[(.bool c1)] h R = F_spec_l1Yes c1 h R := by kernel_rfl
theorem O_spec_l1Yes : okF PR 111 = true := by kernel_rfl
theorem B_spec_l1Yes : Try.f111.body.isSome = true := by kernel_rfl
theorem R_spec_l1Yes {c1 : Bool} {h : Hp} {R : Value → Hp → Prop} (e : F_spec_l1Yes c1 h R) : c_spec_l1Yes #[(.bool c1)] h R :=
  acalls mixed Try.func111 B_spec_l1Yes O_spec_l1Yes A_spec_l1Yes (by kernel_rfl) ((E_spec_l1Yes c1 h R).mpr e)

def A_spec_l7Maker_make : Ann := fun r => if r = 9 then [(0, .pointer 0), (9, .unsafePointer), (10, .int .i64)] else []
def F_spec_l7Maker_make (p1 : Option Addr) (x2 : Int) (x3 : Int) (h : Hp) (R : Value → Hp → Prop) : Prop :=
  ∃ b6 o7 : Nat, p1 = some (Addr.mk b6 o7 none) ∧ (∃ (x8 : Int), Hp.cell h b6 o7 = some (I x8) ∧ (bsplit (x2 == x8) (∃ b11 o12 : Nat, p1 = some (Addr.mk b11 o12 none) ∧ (∃ (s13 : Sl), Hp.cell h b11 (o12 + 1) = some s13.v ∧ (∃ b14 o15 : Nat, s13.a = some (Addr.mk b14 o15 none) ∧ (0 : Int) ≤ x3 ∧ x3 < ((s13.n : Nat) : Int) ∧ (∃ (c16 : Bool), Hp.cell h b14 (o15 + Int.toNat x3 * 1) = some (.bool c16) ∧ (c_spec_l1Yes #[(.bool c16)] h fun v17 h18 => ∃ (x19 : Int), v17 = (I x19) ∧ (R (I x19) h18)))))) (c_spec_l7Maker_make #[(.pointer p1), (I (W (x2 + 1))), (I x3)] h fun v21 h22 => ∃ (x23 : Int), v21 = (I x23) ∧ (if (IntKind.wrap .u64 (x2)) < 0 then False else (c_spec_l7Maker_make #[(.pointer p1), (I (W (x2 + 1))), (I (W (x3 + (shlW 1 (IntKind.wrap .u64 (x2))))))] h22 fun v25 h26 => ∃ (x27 : Int), v25 = (I x27) ∧ (bsplit (x23 == x27) (R (I x23) h26) (∀ b32 : Nat, h26 b32 = none → setH (h26.row b32 [(I 0), (I 0), (I 0)] 3) fun h33 => ∃ (cs34 : List Value) (z35 : Nat), h33 b32 = some (.inl ⟨cs34, z35, false⟩) ∧ 0 + 3 ≤ List.length cs34 ∧ setH (h33.row b32 (lset cs34 0 [(I x2), (I x23), (I x27)]) z35) fun h36 => ALoop (fun vs40 h39 next41 => ∃ (p42 : Option Addr) (b43 o44 : Nat) (x45 : Int), vs40 = [(.pointer p42), (.pointer (some (Addr.mk b43 o44 none))), (I x45)] ∧ (∃ b47 o48 : Nat, p42 = some (Addr.mk b47 o48 none) ∧ (∃ (s49 : Sl), Hp.cell h39 b47 (o48 + 2) = some s49.v ∧ (bsplit (decide (x45 < ((s49.n : Nat) : Int))) (∃ b53 o54 : Nat, p42 = some (Addr.mk b53 o54 none) ∧ (∃ (s55 : Sl), Hp.cell h39 b53 (o54 + 2) = some s55.v ∧ (∃ b56 o57 : Nat, s55.a = some (Addr.mk b56 o57 none) ∧ (0 : Int) ≤ x45 ∧ x45 < ((s55.n : Nat) : Int) ∧ (∃ (x58 : Int), Hp.cell h39 b56 (o57 + Int.toNat x45 * 3) = some (I x58) ∧ (∃ (x59 : Int), Hp.cell h39 b56 ((o57 + Int.toNat x45 * 3) + 1) = some (I x59) ∧ (∃ (x60 : Int), Hp.cell h39 b56 ((o57 + Int.toNat x45 * 3) + 2) = some (I x60) ∧ (∃ (x61 : Int), Hp.cell h39 b43 o44 = some (I x61) ∧ (∃ (x62 : Int), Hp.cell h39 b43 (o44 + 1) = some (I x62) ∧ (∃ (x63 : Int), Hp.cell h39 b43 (o44 + 2) = some (I x63) ∧ (bsplit ((x58 == x61) && ((x59 == x62) && ((x60 == x63) && true))) (R (I (W (x45 + 2))) h39) (next41 [(.pointer p42), (.pointer (some (Addr.mk b43 o44 none))), (I (W (x45 + 1)))] h39))))))))))) (∃ b68 o69 : Nat, p42 = some (Addr.mk b68 o69 none) ∧ (∃ (s70 : Sl), Hp.cell h39 b68 (o69 + 2) = some s70.v ∧ (∃ (x71 : Int), Hp.cell h39 b43 o44 = some (I x71) ∧ (∃ (x72 : Int), Hp.cell h39 b43 (o44 + 1) = some (I x72) ∧ (∃ (x73 : Int), Hp.cell h39 b43 (o44 + 2) = some (I x73) ∧ (∀ b74 : Nat, h39 b74 = none → setH (h39.row b74 [(I x71), (I x72), (I x73)] 3) fun h75 => h75 b68 = h39 b68 ∧ (aApp h75 s70.a s70.n s70.c (some (Addr.mk b74 0 none)) 1 3 24 fun a76 n77 k78 h79 => ∃ b80 o81 : Nat, p42 = some (Addr.mk b80 o81 none) ∧ (∃ (cs82 : List Value) (z83 : Nat), h79 b80 = some (.inl ⟨cs82, z83, false⟩) ∧ (o81 + 2) + 1 ≤ List.length cs82 ∧ setH (h79.row b80 (lset cs82 (o81 + 2) [(.slice a76 n77 k78)]) z83) fun h84 => ∃ b86 o87 : Nat, p42 = some (Addr.mk b86 o87 none) ∧ (∃ (s88 : Sl), Hp.cell h84 b86 (o87 + 2) = some s88.v ∧ (R (I (W (((s88.n : Nat) : Int) + 1))) h84)))))))))))))) [(.pointer p1), (.pointer (some (Addr.mk b32 0 none))), (I 0)] h36)))))))
theorem E_spec_l7Maker_make (p1 : Option Addr) (x2 : Int) (x3 : Int) (h : Hp) (R : Value → Hp → Prop) : ABd PR Try.f89 A_spec_l7Maker_make #[(.pointer p1), (I x2), (I x3)] h R = F_spec_l7Maker_make p1 x2 x3 h R := by kernel_rfl
theorem O_spec_l7Maker_make : okF PR 89 = true := by kernel_rfl
theorem B_spec_l7Maker_make : Try.f89.body.isSome = true := by kernel_rfl
theorem R_spec_l7Maker_make {p1 : Option Addr} {x2 : Int} {x3 : Int} {h : Hp} {R : Value → Hp → Prop} (e : F_spec_l7Maker_make p1 x2 x3 h R) : c_spec_l7Maker_make #[(.pointer p1), (I x2), (I x3)] h R :=
  acalls mixed Try.func89 B_spec_l7Maker_make O_spec_l7Maker_make A_spec_l7Maker_make (by kernel_rfl) ((E_spec_l7Maker_make p1 x2 x3 h R).mpr e)

def A_spec_l7Of : Ann := fun r => []
def F_spec_l7Of (x1 : Int) (s2 : Sl) (h : Hp) (R : Value → Hp → Prop) : Prop :=
  ∀ b4 : Nat, h b4 = none → setH (h.row b4 [(I 0), (.slice none 0 0), (I 0)] 3) fun h5 => ∀ b7 : Nat, h5 b7 = none → setH (h5.row b7 [(I x1), s2.v, (.slice none 0 0)] 3) fun h8 => c_spec_l7Maker_make #[(.pointer (some (Addr.mk b7 0 none))), (I 0), (I 0)] h8 fun v10 h11 => ∃ (x12 : Int), v10 = (I x12) ∧ (∃ b14 o15 : Nat, (some (Addr.mk b7 0 none)) = some (Addr.mk b14 o15 none) ∧ (∃ (s16 : Sl), Hp.cell h11 b14 (o15 + 2) = some s16.v ∧ (bsplit (decide (((s16.n : Nat) : Int) > 600)) (∃ (cs19 : List Value) (z20 : Nat), h11 b4 = some (.inl ⟨cs19, z20, false⟩) ∧ 0 + 3 ≤ List.length cs19 ∧ setH (h11.row b4 (lset cs19 0 [(I 0), (.slice none 0 0), (I 0)]) z20) fun h21 => ∃ (x22 : Int), Hp.cell h21 b4 0 = some (I x22) ∧ (∃ (s23 : Sl), Hp.cell h21 b4 1 = some s23.v ∧ (∃ (x24 : Int), Hp.cell h21 b4 2 = some (I x24) ∧ (R (.tuple #[(.agg #[(I x22), s23.v, (I x24)]), (.bool false)]) h21)))) (∃ b26 o27 : Nat, (some (Addr.mk b7 0 none)) = some (Addr.mk b26 o27 none) ∧ (∃ (s28 : Sl), Hp.cell h11 b26 (o27 + 2) = some s28.v ∧ (∃ (cs29 : List Value) (z30 : Nat), h11 b4 = some (.inl ⟨cs29, z30, false⟩) ∧ 0 + 3 ≤ List.length cs29 ∧ setH (h11.row b4 (lset cs29 0 [(I x1), s28.v, (I x12)]) z30) fun h31 => ∃ (x32 : Int), Hp.cell h31 b4 0 = some (I x32) ∧ (∃ (s33 : Sl), Hp.cell h31 b4 1 = some s33.v ∧ (∃ (x34 : Int), Hp.cell h31 b4 2 = some (I x34) ∧ (R (.tuple #[(.agg #[(I x32), s33.v, (I x34)]), (.bool true)]) h31)))))))))
theorem E_spec_l7Of (x1 : Int) (s2 : Sl) (h : Hp) (R : Value → Hp → Prop) : ABd PR Try.f54 A_spec_l7Of #[(I x1), s2.v] h R = F_spec_l7Of x1 s2 h R := by kernel_rfl
theorem O_spec_l7Of : okF PR 54 = true := by kernel_rfl
theorem B_spec_l7Of : Try.f54.body.isSome = true := by kernel_rfl
theorem R_spec_l7Of {x1 : Int} {s2 : Sl} {h : Hp} {R : Value → Hp → Prop} (e : F_spec_l7Of x1 s2 h R) : c_spec_l7Of #[(I x1), s2.v] h R :=
  acalls mixed Try.func54 B_spec_l7Of O_spec_l7Of A_spec_l7Of (by kernel_rfl) ((E_spec_l7Of x1 s2 h R).mpr e)

def A_laws_toIntS : Ann := fun r => if r = 3 then [(0, .slice 0), (3, .slice 0), (4, .int .i64)] else []
def F_laws_toIntS (s1 : Sl) (h : Hp) (R : Value → Hp → Prop) : Prop :=
  (0 : Int) ≤ ((s1.n : Nat) : Int) ∧ ((s1.n : Nat) : Int) ≤ ((s1.n : Nat) : Int) ∧ ((s1.n : Nat) : Int) * ((8 : Nat) : Int) ≤ 140737488355328 ∧ ((s1.n : Nat) : Int) ≤ 9223372036854775807 ∧ ∀ b4 : Nat, h b4 = none → setH (h.row b4 (zeroRow #[(I 0)] (Int.toNat ((s1.n : Nat) : Int) * 1)) (Int.toNat ((s1.n : Nat) : Int) * 1)) fun h5 => ALoop (fun vs9 h8 next10 => ∃ (s11 : Sl) (s12 : Sl) (x13 : Int), vs9 = [s11.v, s12.v, (I x13)] ∧ (bsplit (decide (x13 < ((s11.n : Nat) : Int))) (∃ b18 o19 : Nat, s11.a = some (Addr.mk b18 o19 none) ∧ (0 : Int) ≤ x13 ∧ x13 < ((s11.n : Nat) : Int) ∧ (∃ (x20 : Int), Hp.cell h8 b18 (o19 + Int.toNat x13 * 1) = some (I x20) ∧ (∃ b21 o22 : Nat, s12.a = some (Addr.mk b21 o22 none) ∧ (0 : Int) ≤ x13 ∧ x13 < ((s12.n : Nat) : Int) ∧ (∃ (cs23 : List Value) (z24 : Nat), h8 b21 = some (.inl ⟨cs23, z24, false⟩) ∧ (o22 + Int.toNat x13 * 1) + 1 ≤ List.length cs23 ∧ setH (h8.row b21 (lset cs23 (o22 + Int.toNat x13 * 1) [(I x20)]) z24) fun h25 => next10 [s11.v, s12.v, (I (W (x13 + 1)))] h25)))) (R s12.v h8))) [s1.v, (.slice (some (Addr.mk b4 0 none)) (Int.toNat ((s1.n : Nat) : Int)) (Int.toNat ((s1.n : Nat) : Int))), (I 0)] h5
theorem E_laws_toIntS (s1 : Sl) (h : Hp) (R : Value → Hp → Prop) : ABd PR Try.f15 A_laws_toIntS #[s1.v] h R = F_laws_toIntS s1 h R := by kernel_rfl
theorem O_laws_toIntS : okF PR 15 = true := by kernel_rfl
theorem B_laws_toIntS : Try.f15.body.isSome = true := by kernel_rfl
theorem R_laws_toIntS {s1 : Sl} {h : Hp} {R : Value → Hp → Prop} (e : F_laws_toIntS s1 h R) : c_laws_toIntS #[s1.v] h R :=
  acalls mixed Try.func15 B_laws_toIntS O_laws_toIntS A_laws_toIntS (by kernel_rfl) ((E_laws_toIntS s1 h R).mpr e)

def A_impl_in : Ann := fun r => []
def F_impl_in (x1 : Int) (x2 : Int) (x3 : Int) (h : Hp) (R : Value → Hp → Prop) : Prop :=
  bsplit (decide (x2 ≤ x1)) (R (.bool (decide (x1 ≤ x3))) h) (R (.bool false) h)
theorem E_impl_in (x1 : Int) (x2 : Int) (x3 : Int) (h : Hp) (R : Value → Hp → Prop) : ABd PR Try.f90 A_impl_in #[(I x1), (I x2), (I x3)] h R = F_impl_in x1 x2 x3 h R := by kernel_rfl
theorem O_impl_in : okF PR 90 = true := by kernel_rfl
theorem B_impl_in : Try.f90.body.isSome = true := by kernel_rfl
theorem R_impl_in {x1 : Int} {x2 : Int} {x3 : Int} {h : Hp} {R : Value → Hp → Prop} (e : F_impl_in x1 x2 x3 h R) : c_impl_in #[(I x1), (I x2), (I x3)] h R :=
  acalls mixed Try.func90 B_impl_in O_impl_in A_impl_in (by kernel_rfl) ((E_impl_in x1 x2 x3 h R).mpr e)

def A_impl_isVars : Ann := fun r => []
def F_impl_isVars (x1 : Int) (h : Hp) (R : Value → Hp → Prop) : Prop :=
  c_impl_in #[(I x1), (I 0), (I 13)] h fun v4 h5 => ∃ (c6 : Bool), v4 = (.bool c6) ∧ (R (.bool c6) h5)
theorem E_impl_isVars (x1 : Int) (h : Hp) (R : Value → Hp → Prop) : ABd PR Try.f55 A_impl_isVars #[(I x1)] h R = F_impl_isVars x1 h R := by kernel_rfl
theorem O_impl_isVars : okF PR 55 = true := by kernel_rfl
theorem B_impl_isVars : Try.f55.body.isSome = true := by kernel_rfl
theorem R_impl_isVars {x1 : Int} {h : Hp} {R : Value → Hp → Prop} (e : F_impl_isVars x1 h R) : c_impl_isVars #[(I x1)] h R :=
  acalls mixed Try.func55 B_impl_isVars O_impl_isVars A_impl_isVars (by kernel_rfl) ((E_impl_isVars x1 h R).mpr e)

def A_impl_builder_build : Ann := fun r => if r = 9 then [(0, .pointer 0), (1, .slice 0), (2, .int .i64), (7, .string), (10, .slice 0), (11, .slice 0), (46, .int .i64), (47, .int .i64)] else []
def F_impl_builder_build (p1 : Option Addr) (s2 : Sl) (x3 : Int) (h : Hp) (R : Value → Hp → Prop) : Prop :=
  bsplit (((s2.n : Nat) : Int) == 1) (∃ b8 o9 : Nat, s2.a = some (Addr.mk b8 o9 none) ∧ (0 : Int) ≤ 0 ∧ 0 < ((s2.n : Nat) : Int) ∧ (∃ (x10 : Int), Hp.cell h b8 (o9 + Int.toNat 0 * 1) = some (.int .u8 x10) ∧ (R (I (W (x10))) h))) (∃ bs12 : List UInt8, slCells h s2.a s2.n (byteCells bs12) ∧ (∃ b14 o15 : Nat, p1 = some (Addr.mk b14 o15 none) ∧ (∃ (m16 : Option Nat), Hp.cell h b14 (o15 + 3) = some (.map m16) ∧ (∃ (r17 : Nat) (es18 : List (Value × Value)) (res19 : Option (Nat × Value)), m16 = some r17 ∧ h r17 = some (.inr es18) ∧ mlook (Instr.sameNow .string (.string ⟨bs12.toArray⟩)) es18 0 = some res19 ∧ ∃ (x20 : Int), Option.getD (Option.map (fun p => p.2) res19) (I 0) = (I x20) ∧ (bsplit (Option.isSome res19) (R (I x20) h) (joinP (fun (s33 : Sl) (s34 : Sl) (h35 : Hp) => ALoop (fun vs39 h38 next40 => ∃ (p41 : Option Addr) (s42 : Sl) (x43 : Int) (s44 : ByteArray) (s45 : Sl) (s46 : Sl) (x47 : Int) (x48 : Int), vs39 = [(.pointer p41), s42.v, (I x43), (.string s44), s45.v, s46.v, (I x47), (I x48)] ∧ (bsplit (decide (x48 < x47)) (∃ b54 o55 : Nat, s42.a = some (Addr.mk b54 o55 none) ∧ (0 : Int) ≤ (W (2 * x48)) ∧ (W (2 * x48)) < ((s42.n : Nat) : Int) ∧ (∃ b56 o57 : Nat, s42.a = some (Addr.mk b56 o57 none) ∧ (0 : Int) ≤ (W ((W (2 * x48)) + 1)) ∧ (W ((W (2 * x48)) + 1)) < ((s42.n : Nat) : Int) ∧ (∃ (x58 : Int), Hp.cell h38 b54 (o55 + Int.toNat (W (2 * x48)) * 1) = some (.int .u8 x58) ∧ (∃ (x59 : Int), Hp.cell h38 b56 (o57 + Int.toNat (W ((W (2 * x48)) + 1)) * 1) = some (.int .u8 x59) ∧ (∃ b60 o61 : Nat, s45.a = some (Addr.mk b60 o61 none) ∧ (0 : Int) ≤ x48 ∧ x48 < ((s45.n : Nat) : Int) ∧ (∃ (cs62 : List Value) (z63 : Nat), h38 b60 = some (.inl ⟨cs62, z63, false⟩) ∧ (o61 + Int.toNat x48 * 1) + 1 ≤ List.length cs62 ∧ setH (h38.row b60 (lset cs62 (o61 + Int.toNat x48 * 1) [(.int .u8 x58)]) z63) fun h64 => ∃ b65 o66 : Nat, s46.a = some (Addr.mk b65 o66 none) ∧ (0 : Int) ≤ x48 ∧ x48 < ((s46.n : Nat) : Int) ∧ (∃ (cs67 : List Value) (z68 : Nat), h64 b65 = some (.inl ⟨cs67, z68, false⟩) ∧ (o66 + Int.toNat x48 * 1) + 1 ≤ List.length cs67 ∧ setH (h64.row b65 (lset cs67 (o66 + Int.toNat x48 * 1) [(.int .u8 x59)]) z68) fun h69 => next40 [(.pointer p41), s42.v, (I x43), (.string s44), s45.v, s46.v, (I x47), (I (W (x48 + 1)))] h69))))))) (c_impl_builder_build #[(.pointer p41), s45.v, (I (W (x43 + 1)))] h38 fun v72 h73 => ∃ (x74 : Int), v72 = (I x74) ∧ (∃ bs76 : List UInt8, slCells h73 s45.a s45.n (byteCells bs76) ∧ (∃ bs77 : List UInt8, slCells h73 s46.a s46.n (byteCells bs77) ∧ (joinP (fun (x135 : Int) (h136 : Hp) => ∃ b138 o139 : Nat, p41 = some (Addr.mk b138 o139 none) ∧ (∃ (m140 : Option Nat), Hp.cell h136 b138 (o139 + 3) = some (.map m140) ∧ (∃ (r141 : Nat) (es142 : List (Value × Value)) (res143 : Option (Nat × Value)), m140 = some r141 ∧ h136 r141 = some (.inr es142) ∧ mlook (Instr.sameNow .string (.string s44)) es142 0 = some res143 ∧ True ∧ setH (h136.set r141 (some (.inr (mput es142 (.string s44) (I x135) res143)))) fun h144 => R (I x135) h144))) fun J146 => bsplit (!(ByteArray.toList (⟨bs76.toArray⟩ : ByteArray) == ByteArray.toList (⟨bs77.toArray⟩ : ByteArray))) (c_impl_builder_build #[(.pointer p41), s46.v, (I (W (x43 + 1)))] h73 fun v80 h81 => ∃ (x82 : Int), v80 = (I x82) ∧ (∀ b83 : Nat, h81 b83 = none → setH (h81.row b83 [(I 0), (I 0), (I 0)] 3) fun h84 => ∃ (cs85 : List Value) (z86 : Nat), h84 b83 = some (.inl ⟨cs85, z86, false⟩) ∧ 0 + 3 ≤ List.length cs85 ∧ setH (h84.row b83 (lset cs85 0 [(I x43), (I x74), (I x82)]) z86) fun h87 => ∃ b89 o90 : Nat, p41 = some (Addr.mk b89 o90 none) ∧ (∃ (m91 : Option Nat), Hp.cell h87 b89 (o90 + 4) = some (.map m91) ∧ (∃ (x92 : Int), Hp.cell h87 b83 0 = some (I x92) ∧ (∃ (x93 : Int), Hp.cell h87 b83 1 = some (I x93) ∧ (∃ (x94 : Int), Hp.cell h87 b83 2 = some (I x94) ∧ (∃ (r95 : Nat) (es96 : List (Value × Value)) (res97 : Option (Nat × Value)), m91 = some r95 ∧ h87 r95 = some (.inr es96) ∧ mlook (aeq PR 3 T_impl_BddNode (.agg #[(I x92), (I x93), (I x94)])) es96 0 = some res97 ∧ ∃ (x98 : Int), Option.getD (Option.map (fun p => p.2) res97) (I 0) = (I x98) ∧ (bsplit (!(Option.isSome res97)) (∃ b101 o102 : Nat, p41 = some (Addr.mk b101 o102 none) ∧ (∃ (s103 : Sl), Hp.cell h87 b101 (o102 + 1) = some s103.v ∧ (∃ b105 o106 : Nat, p41 = some (Addr.mk b105 o106 none) ∧ (∃ (s107 : Sl), Hp.cell h87 b105 (o106 + 1) = some s107.v ∧ (∃ (x108 : Int), Hp.cell h87 b83 0 = some (I x108) ∧ (∃ (x109 : Int), Hp.cell h87 b83 1 = some (I x109) ∧ (∃ (x110 : Int), Hp.cell h87 b83 2 = some (I x110) ∧ (∀ b111 : Nat, h87 b111 = none → setH (h87.row b111 [(I x108), (I x109), (I x110)] 3) fun h112 => h112 b105 = h87 b105 ∧ (aApp h112 s107.a s107.n s107.c (some (Addr.mk b111 0 none)) 1 3 24 fun a113 n114 k115 h116 => ∃ b117 o118 : Nat, p41 = some (Addr.mk b117 o118 none) ∧ (∃ (cs119 : List Value) (z120 : Nat), h116 b117 = some (.inl ⟨cs119, z120, false⟩) ∧ (o118 + 1) + 1 ≤ List.length cs119 ∧ setH (h116.row b117 (lset cs119 (o118 + 1) [(.slice a113 n114 k115)]) z120) fun h121 => ∃ b123 o124 : Nat, p41 = some (Addr.mk b123 o124 none) ∧ (∃ (m125 : Option Nat), Hp.cell h121 b123 (o124 + 4) = some (.map m125) ∧ (∃ (x126 : Int), Hp.cell h121 b83 0 = some (I x126) ∧ (∃ (x127 : Int), Hp.cell h121 b83 1 = some (I x127) ∧ (∃ (x128 : Int), Hp.cell h121 b83 2 = some (I x128) ∧ (∃ (r129 : Nat) (es130 : List (Value × Value)) (res131 : Option (Nat × Value)), m125 = some r129 ∧ h121 r129 = some (.inr es130) ∧ mlook (aeq PR 3 T_impl_BddNode (.agg #[(I x126), (I x127), (I x128)])) es130 0 = some res131 ∧ res131 = none ∧ setH (h121.set r129 (some (.inr (mput es130 (.agg #[(I x126), (I x127), (I x128)]) (I (W (((s103.n : Nat) : Int) + 2))) res131)))) fun h132 => J146 (W (((s103.n : Nat) : Int) + 2)) h132))))))))))))))) (J146 x98 h87))))))))) (J146 x74 h73))))))) [(.pointer p1), s2.v, (I x3), (.string ⟨bs12.toArray⟩), s33.v, s34.v, (I ((s33.n : Nat) : Int)), (I 0)] h35) fun J147 => ((0 : Int) ≤ (W (Int.tdiv ((s2.n : Nat) : Int) 2)) ∧ (W (Int.tdiv ((s2.n : Nat) : Int) 2)) ≤ (W (Int.tdiv ((s2.n : Nat) : Int) 2)) ∧ (W (Int.tdiv ((s2.n : Nat) : Int) 2)) * ((1 : Nat) : Int) ≤ 140737488355328 ∧ (W (Int.tdiv ((s2.n : Nat) : Int) 2)) ≤ 9223372036854775807 ∧ ∀ b25 : Nat, h b25 = none → setH (h.row b25 (zeroRow #[(.int .u8 0)] (Int.toNat (W (Int.tdiv ((s2.n : Nat) : Int) 2)) * 1)) (Int.toNat (W (Int.tdiv ((s2.n : Nat) : Int) 2)) * 1)) fun h26 => (0 : Int) ≤ (W (Int.tdiv ((s2.n : Nat) : Int) 2)) ∧ (W (Int.tdiv ((s2.n : Nat) : Int) 2)) ≤ (W (Int.tdiv ((s2.n : Nat) : Int) 2)) ∧ (W (Int.tdiv ((s2.n : Nat) : Int) 2)) * ((1 : Nat) : Int) ≤ 140737488355328 ∧ (W (Int.tdiv ((s2.n : Nat) : Int) 2)) ≤ 9223372036854775807 ∧ ∀ b27 : Nat, h26 b27 = none → setH (h26.row b27 (zeroRow #[(.int .u8 0)] (Int.toNat (W (Int.tdiv ((s2.n : Nat) : Int) 2)) * 1)) (Int.toNat (W (Int.tdiv ((s2.n : Nat) : Int) 2)) * 1)) fun h28 => J147 (Sl.mk (some (Addr.mk b25 0 none)) (Int.toNat (W (Int.tdiv ((s2.n : Nat) : Int) 2))) (Int.toNat (W (Int.tdiv ((s2.n : Nat) : Int) 2)))) (Sl.mk (some (Addr.mk b27 0 none)) (Int.toNat (W (Int.tdiv ((s2.n : Nat) : Int) 2))) (Int.toNat (W (Int.tdiv ((s2.n : Nat) : Int) 2)))) h28) ∧ ((0 : Int) ≤ (W (Int.tdiv ((s2.n : Nat) : Int) 2)) ∧ (W (Int.tdiv ((s2.n : Nat) : Int) 2)) ≤ (W (Int.tdiv ((s2.n : Nat) : Int) 2)) ∧ (W (Int.tdiv ((s2.n : Nat) : Int) 2)) * ((1 : Nat) : Int) ≤ 140737488355328 ∧ (W (Int.tdiv ((s2.n : Nat) : Int) 2)) ≤ 9223372036854775807 ∧ ∀ b29 : Nat, h b29 = none → setH (h.row b29 (zeroRow #[(.int .u8 0)] (Int.toNat (W (Int.tdiv ((s2.n : Nat) : Int) 2)) * 1)) (Int.toNat (W (Int.tdiv ((s2.n : Nat) : Int) 2)) * 1)) fun h30 => (0 : Int) ≤ (W (Int.tdiv ((s2.n : Nat) : Int) 2)) ∧ (W (Int.tdiv ((s2.n : Nat) : Int) 2)) ≤ (W (Int.tdiv ((s2.n : Nat) : Int) 2)) ∧ (W (Int.tdiv ((s2.n : Nat) : Int) 2)) * ((1 : Nat) : Int) ≤ 140737488355328 ∧ (W (Int.tdiv ((s2.n : Nat) : Int) 2)) ≤ 9223372036854775807 ∧ ∀ b31 : Nat, h30 b31 = none → setH (h30.row b31 (zeroRow #[(.int .u8 0)] (Int.toNat (W (Int.tdiv ((s2.n : Nat) : Int) 2)) * 1)) (Int.toNat (W (Int.tdiv ((s2.n : Nat) : Int) 2)) * 1)) fun h32 => J147 (Sl.mk (some (Addr.mk b31 0 none)) (Int.toNat (W (Int.tdiv ((s2.n : Nat) : Int) 2))) (Int.toNat (W (Int.tdiv ((s2.n : Nat) : Int) 2)))) (Sl.mk (some (Addr.mk b29 0 none)) (Int.toNat (W (Int.tdiv ((s2.n : Nat) : Int) 2))) (Int.toNat (W (Int.tdiv ((s2.n : Nat) : Int) 2)))) h32)))))))
theorem E_impl_builder_build (p1 : Option Addr) (s2 : Sl) (x3 : Int) (h : Hp) (R : Value → Hp → Prop) : ABd PR Try.f91 A_impl_builder_build #[(.pointer p1), s2.v, (I x3)] h R = F_impl_builder_build p1 s2 x3 h R := by kernel_rfl
theorem O_impl_builder_build : okF PR 91 = true := by kernel_rfl
theorem B_impl_builder_build : Try.f91.body.isSome = true := by kernel_rfl
theorem R_impl_builder_build {p1 : Option Addr} {s2 : Sl} {x3 : Int} {h : Hp} {R : Value → Hp → Prop} (e : F_impl_builder_build p1 s2 x3 h R) : c_impl_builder_build #[(.pointer p1), s2.v, (I x3)] h R :=
  acalls mixed Try.func91 B_impl_builder_build O_impl_builder_build A_impl_builder_build (by kernel_rfl) ((E_impl_builder_build p1 s2 x3 h R).mpr e)

def A_impl_Bdd_clone : Ann := fun r => []
def F_impl_Bdd_clone (x1 : Int) (s2 : Sl) (x3 : Int) (h : Hp) (R : Value → Hp → Prop) : Prop :=
  ∀ b5 : Nat, h b5 = none → setH (h.row b5 [(I x1), s2.v, (I x3)] 3) fun h6 => ∀ b7 : Nat, h6 b7 = none → setH (h6.row b7 [(I 0), (.slice none 0 0), (I 0)] 3) fun h8 => ∃ (x10 : Int), Hp.cell h8 b5 0 = some (I x10) ∧ (∃ (s11 : Sl), Hp.cell h8 b5 1 = some s11.v ∧ (∃ (x12 : Int), Hp.cell h8 b5 2 = some (I x12) ∧ (aApp h8 none 0 0 s11.a s11.n 3 24 fun a13 n14 k15 h16 => h16 b5 = h8 b5 ∧ (h16 b5 = h8 b5 ∧ (∃ (cs17 : List Value) (z18 : Nat), h16 b7 = some (.inl ⟨cs17, z18, false⟩) ∧ 0 + 3 ≤ List.length cs17 ∧ setH (h16.row b7 (lset cs17 0 [(I x10), (.slice a13 n14 k15), (I x12)]) z18) fun h19 => ∃ (x20 : Int), Hp.cell h19 b7 0 = some (I x20) ∧ (∃ (s21 : Sl), Hp.cell h19 b7 1 = some s21.v ∧ (∃ (x22 : Int), Hp.cell h19 b7 2 = some (I x22) ∧ (R (.agg #[(I x20), s21.v, (I x22)]) h19))))))))
theorem E_impl_Bdd_clone (x1 : Int) (s2 : Sl) (x3 : Int) (h : Hp) (R : Value → Hp → Prop) : ABd PR Try.f92 A_impl_Bdd_clone #[(.agg #[(I x1), s2.v, (I x3)])] h R = F_impl_Bdd_clone x1 s2 x3 h R := by kernel_rfl
theorem O_impl_Bdd_clone : okF PR 92 = true := by kernel_rfl
theorem B_impl_Bdd_clone : Try.f92.body.isSome = true := by kernel_rfl
theorem R_impl_Bdd_clone {x1 : Int} {s2 : Sl} {x3 : Int} {h : Hp} {R : Value → Hp → Prop} (e : F_impl_Bdd_clone x1 s2 x3 h R) : c_impl_Bdd_clone #[(.agg #[(I x1), s2.v, (I x3)])] h R :=
  acalls mixed Try.func92 B_impl_Bdd_clone O_impl_Bdd_clone A_impl_Bdd_clone (by kernel_rfl) ((E_impl_Bdd_clone x1 s2 x3 h R).mpr e)

def A_impl_table_diagram : Ann := fun r => if r = 2 then [(0, .slice 0), (2, .unsafePointer), (4, .int .i64)] else []
def F_impl_table_diagram (s1 : Sl) (h : Hp) (R : Value → Hp → Prop) : Prop :=
  ∀ b3 : Nat, h b3 = none → setH (h.row b3 [(I 0), (.slice none 0 0), (I 0)] 3) fun h4 => ALoop (fun vs8 h7 next9 => ∃ (s10 : Sl) (b11 o12 : Nat) (x13 : Int), vs8 = [s10.v, (.pointer (some (Addr.mk b11 o12 none))), (I x13)] ∧ (if x13 < 0 then False else (bsplit (decide ((shlW 1 x13) < ((s10.n : Nat) : Int))) (next9 [s10.v, (.pointer (some (Addr.mk b11 o12 none))), (I (W (x13 + 1)))] h7) (∀ b19 : Nat, h7 b19 = none → setH (h7.set b19 (some (.inr []))) fun h20 => ∀ b21 : Nat, h20 b21 = none → setH (h20.set b21 (some (.inr []))) fun h22 => ∀ b23 : Nat, h22 b23 = none → setH (h22.row b23 [(I x13), (.slice none 0 0), (I 0), (.map (some b19)), (.map (some b21))] 5) fun h24 => c_impl_builder_build #[(.pointer (some (Addr.mk b23 0 none))), s10.v, (I 0)] h24 fun v26 h27 => ∃ (x28 : Int), v26 = (I x28) ∧ (∃ b29 o30 : Nat, (some (Addr.mk b23 0 none)) = some (Addr.mk b29 o30 none) ∧ (∃ (cs31 : List Value) (z32 : Nat), h27 b29 = some (.inl ⟨cs31, z32, false⟩) ∧ (o30 + 2) + 1 ≤ List.length cs31 ∧ setH (h27.row b29 (lset cs31 (o30 + 2) [(I x28)]) z32) fun h33 => ∃ b35 o36 : Nat, (some (Addr.mk b23 0 none)) = some (Addr.mk b35 o36 none) ∧ (∃ (s37 : Sl), Hp.cell h33 b35 (o36 + 1) = some s37.v ∧ (bsplit (decide (((s37.n : Nat) : Int) > 600)) (∃ (cs40 : List Value) (z41 : Nat), h33 b11 = some (.inl ⟨cs40, z41, false⟩) ∧ o12 + 3 ≤ List.length cs40 ∧ setH (h33.row b11 (lset cs40 o12 [(I 0), (.slice none 0 0), (I 0)]) z41) fun h42 => ∃ (x43 : Int), Hp.cell h42 b11 o12 = some (I x43) ∧ (∃ (s44 : Sl), Hp.cell h42 b11 (o12 + 1) = some s44.v ∧ (∃ (x45 : Int), Hp.cell h42 b11 (o12 + 2) = some (I x45) ∧ (R (.tuple #[(.agg #[(I x43), s44.v, (I x45)]), (.bool false)]) h42)))) (∃ b47 o48 : Nat, (some (Addr.mk b23 0 none)) = some (Addr.mk b47 o48 none) ∧ (∃ (x49 : Int), Hp.cell h33 b47 o48 = some (I x49) ∧ (∃ (s50 : Sl), Hp.cell h33 b47 (o48 + 1) = some s50.v ∧ (∃ (x51 : Int), Hp.cell h33 b47 (o48 + 2) = some (I x51) ∧ (c_impl_Bdd_clone #[(.agg #[(I x49), s50.v, (I x51)])] h33 fun v52 h53 => ∃ (x54 : Int) (s55 : Sl) (x56 : Int), v52 = (.agg #[(I x54), s55.v, (I x56)]) ∧ (∃ (cs57 : List Value) (z58 : Nat), h53 b11 = some (.inl ⟨cs57, z58, false⟩) ∧ o12 + 3 ≤ List.length cs57 ∧ setH (h53.row b11 (lset cs57 o12 [(I x54), s55.v, (I x56)]) z58) fun h59 => ∃ (x60 : Int), Hp.cell h59 b11 o12 = some (I x60) ∧ (∃ (s61 : Sl), Hp.cell h59 b11 (o12 + 1) = some s61.v ∧ (∃ (x62 : Int), Hp.cell h59 b11 (o12 + 2) = some (I x62) ∧ (R (.tuple #[(.agg #[(I x60), s61.v, (I x62)]), (.bool true)]) h59))))))))))))))))) [s1.v, (.pointer (some (Addr.mk b3 0 none))), (I 0)] h4
theorem E_impl_table_diagram (s1 : Sl) (h : Hp) (R : Value → Hp → Prop) : ABd PR Try.f57 A_impl_table_diagram #[s1.v] h R = F_impl_table_diagram s1 h R := by kernel_rfl
theorem O_impl_table_diagram : okF PR 57 = true := by kernel_rfl
theorem B_impl_table_diagram : Try.f57.body.isSome = true := by kernel_rfl
theorem R_impl_table_diagram {s1 : Sl} {h : Hp} {R : Value → Hp → Prop} (e : F_impl_table_diagram s1 h R) : c_impl_table_diagram #[s1.v] h R :=
  acalls mixed Try.func57 B_impl_table_diagram O_impl_table_diagram A_impl_table_diagram (by kernel_rfl) ((E_impl_table_diagram s1 h R).mpr e)

def A_laws_eqBddNode : Ann := fun r => []
def F_laws_eqBddNode (x1 : Int) (x2 : Int) (x3 : Int) (x4 : Int) (x5 : Int) (x6 : Int) (h : Hp) (R : Value → Hp → Prop) : Prop :=
  ∀ b8 : Nat, h b8 = none → setH (h.row b8 [(I x1), (I x2), (I x3)] 3) fun h9 => ∀ b10 : Nat, h9 b10 = none → setH (h9.row b10 [(I x4), (I x5), (I x6)] 3) fun h11 => ∃ (x13 : Int), Hp.cell h11 b8 0 = some (I x13) ∧ (∃ (x14 : Int), Hp.cell h11 b10 0 = some (I x14) ∧ (bsplit (x13 != x14) (R (.bool false) h11) (∃ (x18 : Int), Hp.cell h11 b8 1 = some (I x18) ∧ (∃ (x19 : Int), Hp.cell h11 b10 1 = some (I x19) ∧ (bsplit (x18 != x19) (R (.bool false) h11) (∃ (x23 : Int), Hp.cell h11 b8 2 = some (I x23) ∧ (∃ (x24 : Int), Hp.cell h11 b10 2 = some (I x24) ∧ (bsplit (x23 != x24) (R (.bool false) h11) (R (.bool true) h11)))))))))
theorem E_laws_eqBddNode (x1 : Int) (x2 : Int) (x3 : Int) (x4 : Int) (x5 : Int) (x6 : Int) (h : Hp) (R : Value → Hp → Prop) : ABd PR Try.f93 A_laws_eqBddNode #[(.agg #[(I x1), (I x2), (I x3)]), (.agg #[(I x4), (I x5), (I x6)])] h R = F_laws_eqBddNode x1 x2 x3 x4 x5 x6 h R := by kernel_rfl
theorem O_laws_eqBddNode : okF PR 93 = true := by kernel_rfl
theorem B_laws_eqBddNode : Try.f93.body.isSome = true := by kernel_rfl
theorem R_laws_eqBddNode {x1 : Int} {x2 : Int} {x3 : Int} {x4 : Int} {x5 : Int} {x6 : Int} {h : Hp} {R : Value → Hp → Prop} (e : F_laws_eqBddNode x1 x2 x3 x4 x5 x6 h R) : c_laws_eqBddNode #[(.agg #[(I x1), (I x2), (I x3)]), (.agg #[(I x4), (I x5), (I x6)])] h R :=
  acalls mixed Try.func93 B_laws_eqBddNode O_laws_eqBddNode A_laws_eqBddNode (by kernel_rfl) ((E_laws_eqBddNode x1 x2 x3 x4 x5 x6 h R).mpr e)

def A_laws_eqBddNodeS : Ann := fun r => if r = 4 then [(0, .slice 0), (1, .slice 0), (5, .int .i64)] else []
def F_laws_eqBddNodeS (s1 : Sl) (s2 : Sl) (h : Hp) (R : Value → Hp → Prop) : Prop :=
  bsplit (((s1.n : Nat) : Int) != ((s2.n : Nat) : Int)) (R (.bool false) h) (ALoop (fun vs10 h9 next11 => ∃ (s12 : Sl) (s13 : Sl) (x14 : Int), vs10 = [s12.v, s13.v, (I x14)] ∧ (bsplit (decide (x14 < ((s12.n : Nat) : Int))) (∃ b19 o20 : Nat, s12.a = some (Addr.mk b19 o20 none) ∧ (0 : Int) ≤ x14 ∧ x14 < ((s12.n : Nat) : Int) ∧ (∃ b21 o22 : Nat, s13.a = some (Addr.mk b21 o22 none) ∧ (0 : Int) ≤ x14 ∧ x14 < ((s13.n : Nat) : Int) ∧ (∃ (x23 : Int), Hp.cell h9 b19 (o20 + Int.toNat x14 * 3) = some (I x23) ∧ (∃ (x24 : Int), Hp.cell h9 b19 ((o20 + Int.toNat x14 * 3) + 1) = some (I x24) ∧ (∃ (x25 : Int), Hp.cell h9 b19 ((o20 + Int.toNat x14 * 3) + 2) = some (I x25) ∧ (∃ (x26 : Int), Hp.cell h9 b21 (o22 + Int.toNat x14 * 3) = some (I x26) ∧ (∃ (x27 : Int), Hp.cell h9 b21 ((o22 + Int.toNat x14 * 3) + 1) = some (I x27) ∧ (∃ (x28 : Int), Hp.cell h9 b21 ((o22 + Int.toNat x14 * 3) + 2) = some (I x28) ∧ (c_laws_eqBddNode #[(.agg #[(I x23), (I x24), (I x25)]), (.agg #[(I x26), (I x27), (I x28)])] h9 fun v29 h30 => ∃ (c31 : Bool), v29 = (.bool c31) ∧ (bsplit (!c31) (R (.bool false) h30) (next11 [s12.v, s13.v, (I (W (x14 + 1)))] h30))))))))))) (R (.bool true) h9))) [s1.v, s2.v, (I 0)] h)
theorem E_laws_eqBddNodeS (s1 : Sl) (s2 : Sl) (h : Hp) (R : Value → Hp → Prop) : ABd PR Try.f58 A_laws_eqBddNodeS #[s1.v, s2.v] h R = F_laws_eqBddNodeS s1 s2 h R := by kernel_rfl
theorem O_laws_eqBddNodeS : okF PR 58 = true := by kernel_rfl
theorem B_laws_eqBddNodeS : Try.f58.body.isSome = true := by kernel_rfl
theorem R_laws_eqBddNodeS {s1 : Sl} {s2 : Sl} {h : Hp} {R : Value → Hp → Prop} (e : F_laws_eqBddNodeS s1 s2 h R) : c_laws_eqBddNodeS #[s1.v, s2.v] h R :=
  acalls mixed Try.func58 B_laws_eqBddNodeS O_laws_eqBddNodeS A_laws_eqBddNodeS (by kernel_rfl) ((E_laws_eqBddNodeS s1 s2 h R).mpr e)

def A_laws_eqBdd : Ann := fun r => []
def F_laws_eqBdd (x1 : Int) (s2 : Sl) (x3 : Int) (x4 : Int) (s5 : Sl) (x6 : Int) (h : Hp) (R : Value → Hp → Prop) : Prop :=
  ∀ b8 : Nat, h b8 = none → setH (h.row b8 [(I x1), s2.v, (I x3)] 3) fun h9 => ∀ b10 : Nat, h9 b10 = none → setH (h9.row b10 [(I x4), s5.v, (I x6)] 3) fun h11 => ∃ (x13 : Int), Hp.cell h11 b8 0 = some (I x13) ∧ (∃ (x14 : Int), Hp.cell h11 b10 0 = some (I x14) ∧ (bsplit (x13 != x14) (R (.bool false) h11) (∃ (s18 : Sl), Hp.cell h11 b8 1 = some s18.v ∧ (∃ (s19 : Sl), Hp.cell h11 b10 1 = some s19.v ∧ (c_laws_eqBddNodeS #[s18.v, s19.v] h11 fun v20 h21 => ∃ (c22 : Bool), v20 = (.bool c22) ∧ (bsplit (!c22) (R (.bool false) h21) (∃ (x26 : Int), Hp.cell h21 b8 2 = some (I x26) ∧ (∃ (x27 : Int), Hp.cell h21 b10 2 = some (I x27) ∧ (bsplit (x26 != x27) (R (.bool false) h21) (R (.bool true) h21))))))))))
theorem E_laws_eqBdd (x1 : Int) (s2 : Sl) (x3 : Int) (x4 : Int) (s5 : Sl) (x6 : Int) (h : Hp) (R : Value → Hp → Prop) : ABd PR Try.f17 A_laws_eqBdd #[(.agg #[(I x1), s2.v, (I x3)]), (.agg #[(I x4), s5.v, (I x6)])] h R = F_laws_eqBdd x1 s2 x3 x4 s5 x6 h R := by kernel_rfl
theorem O_laws_eqBdd : okF PR 17 = true := by kernel_rfl
theorem B_laws_eqBdd : Try.f17.body.isSome = true := by kernel_rfl
theorem R_laws_eqBdd {x1 : Int} {s2 : Sl} {x3 : Int} {x4 : Int} {s5 : Sl} {x6 : Int} {h : Hp} {R : Value → Hp → Prop} (e : F_laws_eqBdd x1 s2 x3 x4 s5 x6 h R) : c_laws_eqBdd #[(.agg #[(I x1), s2.v, (I x3)]), (.agg #[(I x4), s5.v, (I x6)])] h R :=
  acalls mixed Try.func17 B_laws_eqBdd O_laws_eqBdd A_laws_eqBdd (by kernel_rfl) ((E_laws_eqBdd x1 s2 x3 x4 s5 x6 h R).mpr e)

def A_laws_eqIntS : Ann := fun r => if r = 4 then [(0, .slice 0), (1, .slice 0), (5, .int .i64)] else []
def F_laws_eqIntS (s1 : Sl) (s2 : Sl) (h : Hp) (R : Value → Hp → Prop) : Prop :=
  bsplit (((s1.n : Nat) : Int) != ((s2.n : Nat) : Int)) (R (.bool false) h) (ALoop (fun vs10 h9 next11 => ∃ (s12 : Sl) (s13 : Sl) (x14 : Int), vs10 = [s12.v, s13.v, (I x14)] ∧ (bsplit (decide (x14 < ((s12.n : Nat) : Int))) (∃ b19 o20 : Nat, s12.a = some (Addr.mk b19 o20 none) ∧ (0 : Int) ≤ x14 ∧ x14 < ((s12.n : Nat) : Int) ∧ (∃ b21 o22 : Nat, s13.a = some (Addr.mk b21 o22 none) ∧ (0 : Int) ≤ x14 ∧ x14 < ((s13.n : Nat) : Int) ∧ (∃ (x23 : Int), Hp.cell h9 b19 (o20 + Int.toNat x14 * 1) = some (I x23) ∧ (∃ (x24 : Int), Hp.cell h9 b21 (o22 + Int.toNat x14 * 1) = some (I x24) ∧ (bsplit (x23 != x24) (R (.bool false) h9) (next11 [s12.v, s13.v, (I (W (x14 + 1)))] h9)))))) (R (.bool true) h9))) [s1.v, s2.v, (I 0)] h)
theorem E_laws_eqIntS (s1 : Sl) (s2 : Sl) (h : Hp) (R : Value → Hp → Prop) : ABd PR Try.f18 A_laws_eqIntS #[s1.v, s2.v] h R = F_laws_eqIntS s1 s2 h R := by kernel_rfl
theorem O_laws_eqIntS : okF PR 18 = true := by kernel_rfl
theorem B_laws_eqIntS : Try.f18.body.isSome = true := by kernel_rfl
theorem R_laws_eqIntS {s1 : Sl} {s2 : Sl} {h : Hp} {R : Value → Hp → Prop} (e : F_laws_eqIntS s1 s2 h R) : c_laws_eqIntS #[s1.v, s2.v] h R :=
  acalls mixed Try.func18 B_laws_eqIntS O_laws_eqIntS A_laws_eqIntS (by kernel_rfl) ((E_laws_eqIntS s1 s2 h R).mpr e)

def A_laws_markIntS : Ann := fun r => if r = 2 then [(0, .slice 0), (1, .int .i64), (5, .int .i64)] else []
def F_laws_markIntS (s1 : Sl) (x2 : Int) (h : Hp) (R : Value → Hp → Prop) : Prop :=
  ALoop (fun vs7 h6 next8 => ∃ (s9 : Sl) (x10 : Int) (x11 : Int), vs7 = [s9.v, (I x10), (I x11)] ∧ (bsplit (decide (x11 < ((s9.n : Nat) : Int))) (∃ b16 o17 : Nat, s9.a = some (Addr.mk b16 o17 none) ∧ (0 : Int) ≤ x11 ∧ x11 < ((s9.n : Nat) : Int) ∧ (∃ (cs18 : List Value) (z19 : Nat), h6 b16 = some (.inl ⟨cs18, z19, false⟩) ∧ (o17 + Int.toNat x11 * 1) + 1 ≤ List.length cs18 ∧ setH (h6.row b16 (lset cs18 (o17 + Int.toNat x11 * 1) [(I x10)]) z19) fun h20 => next8 [s9.v, (I (W (x10 + 1))), (I (W (x11 + 1)))] h20)) (R (I x10) h6))) [s1.v, (I x2), (I 0)] h
theorem E_laws_markIntS (s1 : Sl) (x2 : Int) (h : Hp) (R : Value → Hp → Prop) : ABd PR Try.f19 A_laws_markIntS #[s1.v, (I x2)] h R = F_laws_markIntS s1 x2 h R := by kernel_rfl
theorem O_laws_markIntS : okF PR 19 = true := by kernel_rfl
theorem B_laws_markIntS : Try.f19.body.isSome = true := by kernel_rfl
theorem R_laws_markIntS {s1 : Sl} {x2 : Int} {h : Hp} {R : Value → Hp → Prop} (e : F_laws_markIntS s1 x2 h R) : c_laws_markIntS #[s1.v, (I x2)] h R :=
  acalls mixed Try.func19 B_laws_markIntS O_laws_markIntS A_laws_markIntS (by kernel_rfl) ((E_laws_markIntS s1 x2 h R).mpr e)

def A_laws_markBddNodeS : Ann := fun r => if r = 2 then [(0, .slice 0), (1, .int .i64), (5, .int .i64)] else []
def F_laws_markBddNodeS (s1 : Sl) (x2 : Int) (h : Hp) (R : Value → Hp → Prop) : Prop :=
  ALoop (fun vs7 h6 next8 => ∃ (s9 : Sl) (x10 : Int) (x11 : Int), vs7 = [s9.v, (I x10), (I x11)] ∧ (bsplit (decide (x11 < ((s9.n : Nat) : Int))) (∃ b16 o17 : Nat, s9.a = some (Addr.mk b16 o17 none) ∧ (0 : Int) ≤ x11 ∧ x11 < ((s9.n : Nat) : Int) ∧ (∃ (cs18 : List Value) (z19 : Nat), h6 b16 = some (.inl ⟨cs18, z19, false⟩) ∧ (o17 + Int.toNat x11 * 3) + 1 ≤ List.length cs18 ∧ setH (h6.row b16 (lset cs18 (o17 + Int.toNat x11 * 3) [(I x10)]) z19) fun h20 => ∃ b23 o24 : Nat, s9.a = some (Addr.mk b23 o24 none) ∧ (0 : Int) ≤ x11 ∧ x11 < ((s9.n : Nat) : Int) ∧ (∃ (cs25 : List Value) (z26 : Nat), h20 b23 = some (.inl ⟨cs25, z26, false⟩) ∧ ((o24 + Int.toNat x11 * 3) + 1) + 1 ≤ List.length cs25 ∧ setH (h20.row b23 (lset cs25 ((o24 + Int.toNat x11 * 3) + 1) [(I (W (x10 + 1)))]) z26) fun h27 => ∃ b30 o31 : Nat, s9.a = some (Addr.mk b30 o31 none) ∧ (0 : Int) ≤ x11 ∧ x11 < ((s9.n : Nat) : Int) ∧ (∃ (cs32 : List Value) (z33 : Nat), h27 b30 = some (.inl ⟨cs32, z33, false⟩) ∧ ((o31 + Int.toNat x11 * 3) + 2) + 1 ≤ List.length cs32 ∧ setH (h27.row b30 (lset cs32 ((o31 + Int.toNat x11 * 3) + 2) [(I (W ((W (x10 + 1)) + 1)))]) z33) fun h34 => next8 [s9.v, (I (W ((W ((W (x10 + 1)) + 1)) + 1))), (I (W (x11 + 1)))] h34)))) (R (I x10) h6))) [s1.v, (I x2), (I 0)] h
theorem E_laws_markBddNodeS (s1 : Sl) (x2 : Int) (h : Hp) (R : Value → Hp → Prop) : ABd PR Try.f59 A_laws_markBddNodeS #[s1.v, (I x2)] h R = F_laws_markBddNodeS s1 x2 h R := by kernel_rfl
theorem O_laws_markBddNodeS : okF PR 59 = true := by kernel_rfl
theorem B_laws_markBddNodeS : Try.f59.body.isSome = true := by kernel_rfl
theorem R_laws_markBddNodeS {s1 : Sl} {x2 : Int} {h : Hp} {R : Value → Hp → Prop} (e : F_laws_markBddNodeS s1 x2 h R) : c_laws_markBddNodeS #[s1.v, (I x2)] h R :=
  acalls mixed Try.func59 B_laws_markBddNodeS O_laws_markBddNodeS A_laws_markBddNodeS (by kernel_rfl) ((E_laws_markBddNodeS s1 x2 h R).mpr e)

def A_laws_markBdd : Ann := fun r => []
def F_laws_markBdd (x1 : Int) (s2 : Sl) (x3 : Int) (x4 : Int) (h : Hp) (R : Value → Hp → Prop) : Prop :=
  ∀ b6 : Nat, h b6 = none → setH (h.row b6 [(I x1), s2.v, (I x3)] 3) fun h7 => ∃ (s9 : Sl), Hp.cell h7 b6 1 = some s9.v ∧ (c_laws_markBddNodeS #[s9.v, (I x4)] h7 fun v10 h11 => ∃ (x12 : Int), v10 = (I x12) ∧ (R (I x12) h11))
theorem E_laws_markBdd (x1 : Int) (s2 : Sl) (x3 : Int) (x4 : Int) (h : Hp) (R : Value → Hp → Prop) : ABd PR Try.f20 A_laws_markBdd #[(.agg #[(I x1), s2.v, (I x3)]), (I x4)] h R = F_laws_markBdd x1 s2 x3 x4 h R := by kernel_rfl
theorem O_laws_markBdd : okF PR 20 = true := by kernel_rfl
theorem B_laws_markBdd : Try.f20.body.isSome = true := by kernel_rfl
theorem R_laws_markBdd {x1 : Int} {s2 : Sl} {x3 : Int} {x4 : Int} {h : Hp} {R : Value → Hp → Prop} (e : F_laws_markBdd x1 s2 x3 x4 h R) : c_laws_markBdd #[(.agg #[(I x1), s2.v, (I x3)]), (I x4)] h R :=
  acalls mixed Try.func20 B_laws_markBdd O_laws_markBdd A_laws_markBdd (by kernel_rfl) ((E_laws_markBdd x1 s2 x3 x4 h R).mpr e)

def A_laws_heldBddNodeS : Ann := fun r => if r = 2 then [(0, .slice 0), (1, .int .i64), (5, .int .i64)] else []
def F_laws_heldBddNodeS (s1 : Sl) (x2 : Int) (h : Hp) (R : Value → Hp → Prop) : Prop :=
  ALoop (fun vs7 h6 next8 => ∃ (s9 : Sl) (x10 : Int) (x11 : Int), vs7 = [s9.v, (I x10), (I x11)] ∧ (bsplit (decide (x11 < ((s9.n : Nat) : Int))) (∃ b16 o17 : Nat, s9.a = some (Addr.mk b16 o17 none) ∧ (0 : Int) ≤ x11 ∧ x11 < ((s9.n : Nat) : Int) ∧ (∃ (x18 : Int), Hp.cell h6 b16 (o17 + Int.toNat x11 * 3) = some (I x18) ∧ (bsplit (x18 != x10) (R (I (-1)) h6) (∃ b23 o24 : Nat, s9.a = some (Addr.mk b23 o24 none) ∧ (0 : Int) ≤ x11 ∧ x11 < ((s9.n : Nat) : Int) ∧ (∃ (x25 : Int), Hp.cell h6 b23 ((o24 + Int.toNat x11 * 3) + 1) = some (I x25) ∧ (bsplit (x25 != (W (x10 + 1))) (R (I (-1)) h6) (∃ b30 o31 : Nat, s9.a = some (Addr.mk b30 o31 none) ∧ (0 : Int) ≤ x11 ∧ x11 < ((s9.n : Nat) : Int) ∧ (∃ (x32 : Int), Hp.cell h6 b30 ((o31 + Int.toNat x11 * 3) + 2) = some (I x32) ∧ (bsplit (x32 != (W ((W (x10 + 1)) + 1))) (R (I (-1)) h6) (next8 [s9.v, (I (W ((W ((W (x10 + 1)) + 1)) + 1))), (I (W (x11 + 1)))] h6)))))))))) (R (I x10) h6))) [s1.v, (I x2), (I 0)] h
theorem E_laws_heldBddNodeS (s1 : Sl) (x2 : Int) (h : Hp) (R : Value → Hp → Prop) : ABd PR Try.f60 A_laws_heldBddNodeS #[s1.v, (I x2)] h R = F_laws_heldBddNodeS s1 x2 h R := by kernel_rfl
theorem O_laws_heldBddNodeS : okF PR 60 = true := by kernel_rfl
theorem B_laws_heldBddNodeS : Try.f60.body.isSome = true := by kernel_rfl
theorem R_laws_heldBddNodeS {s1 : Sl} {x2 : Int} {h : Hp} {R : Value → Hp → Prop} (e : F_laws_heldBddNodeS s1 x2 h R) : c_laws_heldBddNodeS #[s1.v, (I x2)] h R :=
  acalls mixed Try.func60 B_laws_heldBddNodeS O_laws_heldBddNodeS A_laws_heldBddNodeS (by kernel_rfl) ((E_laws_heldBddNodeS s1 x2 h R).mpr e)

def A_laws_heldBdd : Ann := fun r => []
def F_laws_heldBdd (x1 : Int) (s2 : Sl) (x3 : Int) (x4 : Int) (h : Hp) (R : Value → Hp → Prop) : Prop :=
  ∀ b6 : Nat, h b6 = none → setH (h.row b6 [(I x1), s2.v, (I x3)] 3) fun h7 => ∃ (s9 : Sl), Hp.cell h7 b6 1 = some s9.v ∧ (c_laws_heldBddNodeS #[s9.v, (I x4)] h7 fun v10 h11 => ∃ (x12 : Int), v10 = (I x12) ∧ (bsplit (decide (x12 < 0)) (R (I (-1)) h11) (R (I x12) h11)))
theorem E_laws_heldBdd (x1 : Int) (s2 : Sl) (x3 : Int) (x4 : Int) (h : Hp) (R : Value → Hp → Prop) : ABd PR Try.f21 A_laws_heldBdd #[(.agg #[(I x1), s2.v, (I x3)]), (I x4)] h R = F_laws_heldBdd x1 s2 x3 x4 h R := by kernel_rfl
theorem O_laws_heldBdd : okF PR 21 = true := by kernel_rfl
theorem B_laws_heldBdd : Try.f21.body.isSome = true := by kernel_rfl
theorem R_laws_heldBdd {x1 : Int} {s2 : Sl} {x3 : Int} {x4 : Int} {h : Hp} {R : Value → Hp → Prop} (e : F_laws_heldBdd x1 s2 x3 x4 h R) : c_laws_heldBdd #[(.agg #[(I x1), s2.v, (I x3)]), (I x4)] h R :=
  acalls mixed Try.func21 B_laws_heldBdd O_laws_heldBdd A_laws_heldBdd (by kernel_rfl) ((E_laws_heldBdd x1 s2 x3 x4 h R).mpr e)

def A_slices_IndexFunc_SSint_Sint : Ann := fun r => if r = 2 then [(0, .slice 0), (1, .func #[] #[] false), (7, .int .i64), (8, .int .i64)] else []
def F_slices_IndexFunc_SSint_Sint (s1 : Sl) (f2 : FuncId) (u3 w4 : Array Value) (h : Hp) (R : Value → Hp → Prop) : Prop :=
  ALoop (fun vs9 h8 next10 => ∃ (s11 : Sl) (f12 : FuncId) (u13 w14 : Array Value) (x15 : Int) (x16 : Int), vs9 = [s11.v, (.func (.func f12) u13 w14), (I x15), (I x16)] ∧ (bsplit (decide (x16 < x15)) (∃ b22 o23 : Nat, s11.a = some (Addr.mk b22 o23 none) ∧ (0 : Int) ≤ x16 ∧ x16 < ((s11.n : Nat) : Int) ∧ (∃ (s24 : Sl), Hp.cell h8 b22 (o23 + Int.toNat x16 * 1) = some s24.v ∧ (ACalls PR f12 ((u13 ++ List.toArray [s24.v]) ++ w14) h8 fun v25 h26 => ∃ (c27 : Bool), v25 = (.bool c27) ∧ (bsplit c27 (R (I x16) h26) (next10 [s11.v, (.func (.func f12) u13 w14), (I x15), (I (W (x16 + 1)))] h26))))) (R (I (-1)) h8))) [s1.v, (.func (.func f2) u3 w4), (I ((s1.n : Nat) : Int)), (I 0)] h
theorem E_slices_IndexFunc_SSint_Sint (s1 : Sl) (f2 : FuncId) (u3 w4 : Array Value) (h : Hp) (R : Value → Hp → Prop) : ABd PR Try.f112 A_slices_IndexFunc_SSint_Sint #[s1.v, (.func (.func f2) u3 w4)] h R = F_slices_IndexFunc_SSint_Sint s1 f2 u3 w4 h R := by kernel_rfl
theorem O_slices_IndexFunc_SSint_Sint : okF PR 112 = true := by kernel_rfl
theorem B_slices_IndexFunc_SSint_Sint : Try.f112.body.isSome = true := by kernel_rfl
theorem R_slices_IndexFunc_SSint_Sint {s1 : Sl} {f2 : FuncId} {u3 w4 : Array Value} {h : Hp} {R : Value → Hp → Prop} (e : F_slices_IndexFunc_SSint_Sint s1 f2 u3 w4 h R) : c_slices_IndexFunc_SSint_Sint #[s1.v, (.func (.func f2) u3 w4)] h R :=
  acalls mixed Try.func112 B_slices_IndexFunc_SSint_Sint O_slices_IndexFunc_SSint_Sint A_slices_IndexFunc_SSint_Sint (by kernel_rfl) ((E_slices_IndexFunc_SSint_Sint s1 f2 u3 w4 h R).mpr e)

def A_slices_ContainsFunc_SSint_Sint : Ann := fun r => []
def F_slices_ContainsFunc_SSint_Sint (s1 : Sl) (f2 : FuncId) (u3 w4 : Array Value) (h : Hp) (R : Value → Hp → Prop) : Prop :=
  c_slices_IndexFunc_SSint_Sint #[s1.v, (.func (.func f2) u3 w4)] h fun v7 h8 => ∃ (x9 : Int), v7 = (I x9) ∧ (R (.bool (decide (x9 ≥ 0))) h8)
theorem E_slices_ContainsFunc_SSint_Sint (s1 : Sl) (f2 : FuncId) (u3 w4 : Array Value) (h : Hp) (R : Value → Hp → Prop) : ABd PR Try.f95 A_slices_ContainsFunc_SSint_Sint #[s1.v, (.func (.func f2) u3 w4)] h R = F_slices_ContainsFunc_SSint_Sint s1 f2 u3 w4 h R := by kernel_rfl
theorem O_slices_ContainsFunc_SSint_Sint : okF PR 95 = true := by kernel_rfl
theorem B_slices_ContainsFunc_SSint_Sint : Try.f95.body.isSome = true := by kernel_rfl
theorem R_slices_ContainsFunc_SSint_Sint {s1 : Sl} {f2 : FuncId} {u3 w4 : Array Value} {h : Hp} {R : Value → Hp → Prop} (e : F_slices_ContainsFunc_SSint_Sint s1 f2 u3 w4 h R) : c_slices_ContainsFunc_SSint_Sint #[s1.v, (.func (.func f2) u3 w4)] h R :=
  acalls mixed Try.func95 B_slices_ContainsFunc_SSint_Sint O_slices_ContainsFunc_SSint_Sint A_slices_ContainsFunc_SSint_Sint (by kernel_rfl) ((E_slices_ContainsFunc_SSint_Sint s1 f2 u3 w4 h R).mpr e)

def A_slices_IndexFunc_Sint_int : Ann := fun r => if r = 2 then [(0, .slice 0), (1, .func #[] #[] false), (7, .int .i64), (8, .int .i64)] else []
def F_slices_IndexFunc_Sint_int (s1 : Sl) (f2 : FuncId) (u3 w4 : Array Value) (h : Hp) (R : Value → Hp → Prop) : Prop :=
  ALoop (fun vs9 h8 next10 => ∃ (s11 : Sl) (f12 : FuncId) (u13 w14 : Array Value) (x15 : Int) (x16 : Int), vs9 = [s11.v, (.func (.func f12) u13 w14), (I x15), (I x16)] ∧ (bsplit (decide (x16 < x15)) (∃ b22 o23 : Nat, s11.a = some (Addr.mk b22 o23 none) ∧ (0 : Int) ≤ x16 ∧ x16 < ((s11.n : Nat) : Int) ∧ (∃ (x24 : Int), Hp.cell h8 b22 (o23 + Int.toNat x16 * 1) = some (I x24) ∧ (ACalls PR f12 ((u13 ++ List.toArray [(I x24)]) ++ w14) h8 fun v25 h26 => ∃ (c27 : Bool), v25 = (.bool c27) ∧ (bsplit c27 (R (I x16) h26) (next10 [s11.v, (.func (.func f12) u13 w14), (I x15), (I (W (x16 + 1)))] h26))))) (R (I (-1)) h8))) [s1.v, (.func (.func f2) u3 w4), (I ((s1.n : Nat) : Int)), (I 0)] h
theorem E_slices_IndexFunc_Sint_int (s1 : Sl) (f2 : FuncId) (u3 w4 : Array Value) (h : Hp) (R : Value → Hp → Prop) : ABd PR Try.f97 A_slices_IndexFunc_Sint_int #[s1.v, (.func (.func f2) u3 w4)] h R = F_slices_IndexFunc_Sint_int s1 f2 u3 w4 h R := by kernel_rfl
theorem O_slices_IndexFunc_Sint_int : okF PR 97 = true := by kernel_rfl
theorem B_slices_IndexFunc_Sint_int : Try.f97.body.isSome = true := by kernel_rfl
theorem R_slices_IndexFunc_Sint_int {s1 : Sl} {f2 : FuncId} {u3 w4 : Array Value} {h : Hp} {R : Value → Hp → Prop} (e : F_slices_IndexFunc_Sint_int s1 f2 u3 w4 h R) : c_slices_IndexFunc_Sint_int #[s1.v, (.func (.func f2) u3 w4)] h R :=
  acalls mixed Try.func97 B_slices_IndexFunc_Sint_int O_slices_IndexFunc_Sint_int A_slices_IndexFunc_Sint_int (by kernel_rfl) ((E_slices_IndexFunc_Sint_int s1 f2 u3 w4 h R).mpr e)

def A_slices_ContainsFunc_Sint_int : Ann := fun r => []
def F_slices_ContainsFunc_Sint_int (s1 : Sl) (f2 : FuncId) (u3 w4 : Array Value) (h : Hp) (R : Value → Hp → Prop) : Prop :=
  c_slices_IndexFunc_Sint_int #[s1.v, (.func (.func f2) u3 w4)] h fun v7 h8 => ∃ (x9 : Int), v7 = (I x9) ∧ (R (.bool (decide (x9 ≥ 0))) h8)
theorem E_slices_ContainsFunc_Sint_int (s1 : Sl) (f2 : FuncId) (u3 w4 : Array Value) (h : Hp) (R : Value → Hp → Prop) : ABd PR Try.f100 A_slices_ContainsFunc_Sint_int #[s1.v, (.func (.func f2) u3 w4)] h R = F_slices_ContainsFunc_Sint_int s1 f2 u3 w4 h R := by kernel_rfl
theorem O_slices_ContainsFunc_Sint_int : okF PR 100 = true := by kernel_rfl
theorem B_slices_ContainsFunc_Sint_int : Try.f100.body.isSome = true := by kernel_rfl
theorem R_slices_ContainsFunc_Sint_int {s1 : Sl} {f2 : FuncId} {u3 w4 : Array Value} {h : Hp} {R : Value → Hp → Prop} (e : F_slices_ContainsFunc_Sint_int s1 f2 u3 w4 h R) : c_slices_ContainsFunc_Sint_int #[s1.v, (.func (.func f2) u3 w4)] h R :=
  acalls mixed Try.func100 B_slices_ContainsFunc_Sint_int O_slices_ContainsFunc_Sint_int A_slices_ContainsFunc_Sint_int (by kernel_rfl) ((E_slices_ContainsFunc_Sint_int s1 f2 u3 w4 h R).mpr e)

def A_impl_clauseOk_d1 : Ann := fun r => []
def F_impl_clauseOk_d1 (x1 : Int) (b2 o3 : Nat) (h : Hp) (R : Value → Hp → Prop) : Prop :=
  bsplit (x1 == 0) (R (.bool true) h) (∃ (x5 : Int), Hp.cell h b2 o3 = some (I x5) ∧ (∃ (x6 : Int), Hp.cell h b2 o3 = some (I x6) ∧ (c_impl_in #[(I x1), (I (W (0 - x5))), (I x6)] h fun v7 h8 => ∃ (c9 : Bool), v7 = (.bool c9) ∧ (R (.bool (!c9)) h8))))
theorem E_impl_clauseOk_d1 (x1 : Int) (b2 o3 : Nat) (h : Hp) (R : Value → Hp → Prop) : ABd PR Try.f101 A_impl_clauseOk_d1 #[(I x1), (.pointer (some (Addr.mk b2 o3 none)))] h R = F_impl_clauseOk_d1 x1 b2 o3 h R := by kernel_rfl
theorem O_impl_clauseOk_d1 : okF PR 101 = true := by kernel_rfl
theorem B_impl_clauseOk_d1 : Try.f101.body.isSome = true := by kernel_rfl
theorem R_impl_clauseOk_d1 {x1 : Int} {b2 o3 : Nat} {h : Hp} {R : Value → Hp → Prop} (e : F_impl_clauseOk_d1 x1 b2 o3 h R) : c_impl_clauseOk_d1 #[(I x1), (.pointer (some (Addr.mk b2 o3 none)))] h R :=
  acalls mixed Try.func101 B_impl_clauseOk_d1 O_impl_clauseOk_d1 A_impl_clauseOk_d1 (by kernel_rfl) ((E_impl_clauseOk_d1 x1 b2 o3 h R).mpr e)

def A_impl_clauseOk : Ann := fun r => []
def F_impl_clauseOk (x1 : Int) (s2 : Sl) (h : Hp) (R : Value → Hp → Prop) : Prop :=
  ∀ b4 : Nat, h b4 = none → setH (h.row b4 [(I x1)] 1) fun h5 => bsplit (decide (((s2.n : Nat) : Int) ≤ 10)) (c_slices_ContainsFunc_Sint_int #[s2.v, (.func (.func i_impl_clauseOk_d1) #[] #[(.pointer (some (Addr.mk b4 0 none)))])] h5 fun v6 h7 => ∃ (c8 : Bool), v6 = (.bool c8) ∧ (R (.bool (!c8)) h7)) (R (.bool false) h5)
theorem E_impl_clauseOk (x1 : Int) (s2 : Sl) (h : Hp) (R : Value → Hp → Prop) : ABd PR Try.f74 A_impl_clauseOk #[(I x1), s2.v] h R = F_impl_clauseOk x1 s2 h R := by kernel_rfl
theorem O_impl_clauseOk : okF PR 74 = true := by kernel_rfl
theorem B_impl_clauseOk : Try.f74.body.isSome = true := by kernel_rfl
theorem R_impl_clauseOk {x1 : Int} {s2 : Sl} {h : Hp} {R : Value → Hp → Prop} (e : F_impl_clauseOk x1 s2 h R) : c_impl_clauseOk #[(I x1), s2.v] h R :=
  acalls mixed Try.func74 B_impl_clauseOk O_impl_clauseOk A_impl_clauseOk (by kernel_rfl) ((E_impl_clauseOk x1 s2 h R).mpr e)

def A_impl_CnfOk_d1 : Ann := fun r => []
def F_impl_CnfOk_d1 (s1 : Sl) (b2 o3 : Nat) (h : Hp) (R : Value → Hp → Prop) : Prop :=
  ∃ (x6 : Int), Hp.cell h b2 o3 = some (I x6) ∧ (c_impl_clauseOk #[(I x6), s1.v] h fun v7 h8 => ∃ (c9 : Bool), v7 = (.bool c9) ∧ (R (.bool (!c9)) h8))
theorem E_impl_CnfOk_d1 (s1 : Sl) (b2 o3 : Nat) (h : Hp) (R : Value → Hp → Prop) : ABd PR Try.f96 A_impl_CnfOk_d1 #[s1.v, (.pointer (some (Addr.mk b2 o3 none)))] h R = F_impl_CnfOk_d1 s1 b2 o3 h R := by kernel_rfl
theorem O_impl_CnfOk_d1 : okF PR 96 = true := by kernel_rfl
theorem B_impl_CnfOk_d1 : Try.f96.body.isSome = true := by kernel_rfl
theorem R_impl_CnfOk_d1 {s1 : Sl} {b2 o3 : Nat} {h : Hp} {R : Value → Hp → Prop} (e : F_impl_CnfOk_d1 s1 b2 o3 h R) : c_impl_CnfOk_d1 #[s1.v, (.pointer (some (Addr.mk b2 o3 none)))] h R :=
  acalls mixed Try.func96 B_impl_CnfOk_d1 O_impl_CnfOk_d1 A_impl_CnfOk_d1 (by kernel_rfl) ((E_impl_CnfOk_d1 s1 b2 o3 h R).mpr e)

def A_impl_CnfOk : Ann := fun r => []
def F_impl_CnfOk (x1 : Int) (s2 : Sl) (h : Hp) (R : Value → Hp → Prop) : Prop :=
  ∀ b4 : Nat, h b4 = none → setH (h.row b4 [(I x1), s2.v] 2) fun h5 => ∃ (x6 : Int), Hp.cell h5 b4 0 = some (I x6) ∧ (c_impl_in #[(I x6), (I 1), (I 10)] h5 fun v7 h8 => ∃ (c9 : Bool), v7 = (.bool c9) ∧ (bsplit c9 (∃ (s10 : Sl), Hp.cell h8 b4 1 = some s10.v ∧ (bsplit (decide (((s10.n : Nat) : Int) ≤ 60)) (∃ (s11 : Sl), Hp.cell h8 b4 1 = some s11.v ∧ (c_slices_ContainsFunc_SSint_Sint #[s11.v, (.func (.func i_impl_CnfOk_d1) #[] #[(.pointer (some (Addr.mk b4 0 none)))])] h8 fun v12 h13 => ∃ (c14 : Bool), v12 = (.bool c14) ∧ (R (.bool (!c14)) h13))) (R (.bool false) h8))) (R (.bool false) h8)))
theorem E_impl_CnfOk (x1 : Int) (s2 : Sl) (h : Hp) (R : Value → Hp → Prop) : ABd PR Try.f63 A_impl_CnfOk #[(.agg #[(I x1), s2.v])] h R = F_impl_CnfOk x1 s2 h R := by kernel_rfl
theorem O_impl_CnfOk : okF PR 63 = true := by kernel_rfl
theorem B_impl_CnfOk : Try.f63.body.isSome = true := by kernel_rfl
theorem R_impl_CnfOk {x1 : Int} {s2 : Sl} {h : Hp} {R : Value → Hp → Prop} (e : F_impl_CnfOk x1 s2 h R) : c_impl_CnfOk #[(.agg #[(I x1), s2.v])] h R :=
  acalls mixed Try.func63 B_impl_CnfOk O_impl_CnfOk A_impl_CnfOk (by kernel_rfl) ((E_impl_CnfOk x1 s2 h R).mpr e)

def A_impl_literal : Ann := fun r => []
def F_impl_literal (x1 : Int) (x2 : Int) (h : Hp) (R : Value → Hp → Prop) : Prop :=
  bsplit (decide (x1 < 0)) (if (W ((W (0 - x1)) - 1)) < 0 then False else (R (.bool ((andW (shrW x2 (W ((W (0 - x1)) - 1))) 1) == 0)) h)) (if (W (x1 - 1)) < 0 then False else (R (.bool ((andW (shrW x2 (W (x1 - 1))) 1) == 1)) h))
theorem E_impl_literal (x1 : Int) (x2 : Int) (h : Hp) (R : Value → Hp → Prop) : ABd PR Try.f110 A_impl_literal #[(I x1), (I x2)] h R = F_impl_literal x1 x2 h R := by kernel_rfl
theorem O_impl_literal : okF PR 110 = true := by kernel_rfl
theorem B_impl_literal : Try.f110.body.isSome = true := by kernel_rfl
theorem R_impl_literal {x1 : Int} {x2 : Int} {h : Hp} {R : Value → Hp → Prop} (e : F_impl_literal x1 x2 h R) : c_impl_literal #[(I x1), (I x2)] h R :=
  acalls mixed Try.func110 B_impl_literal O_impl_literal A_impl_literal (by kernel_rfl) ((E_impl_literal x1 x2 h R).mpr e)

def A_impl_clausesHold_d1_d1 : Ann := fun r => []
def F_impl_clausesHold_d1_d1 (x1 : Int) (b2 o3 : Nat) (h : Hp) (R : Value → Hp → Prop) : Prop :=
  ∃ (x6 : Int), Hp.cell h b2 o3 = some (I x6) ∧ (c_impl_literal #[(I x1), (I x6)] h fun v7 h8 => ∃ (c9 : Bool), v7 = (.bool c9) ∧ (R (.bool c9) h8))
theorem E_impl_clausesHold_d1_d1 (x1 : Int) (b2 o3 : Nat) (h : Hp) (R : Value → Hp → Prop) : ABd PR Try.f109 A_impl_clausesHold_d1_d1 #[(I x1), (.pointer (some (Addr.mk b2 o3 none)))] h R = F_impl_clausesHold_d1_d1 x1 b2 o3 h R := by kernel_rfl
theorem O_impl_clausesHold_d1_d1 : okF PR 109 = true := by kernel_rfl
theorem B_impl_clausesHold_d1_d1 : Try.f109.body.isSome = true := by kernel_rfl
theorem R_impl_clausesHold_d1_d1 {x1 : Int} {b2 o3 : Nat} {h : Hp} {R : Value → Hp → Prop} (e : F_impl_clausesHold_d1_d1 x1 b2 o3 h R) : c_impl_clausesHold_d1_d1 #[(I x1), (.pointer (some (Addr.mk b2 o3 none)))] h R :=
  acalls mixed Try.func109 B_impl_clausesHold_d1_d1 O_impl_clausesHold_d1_d1 A_impl_clausesHold_d1_d1 (by kernel_rfl) ((E_impl_clausesHold_d1_d1 x1 b2 o3 h R).mpr e)

def A_impl_clausesHold_d1 : Ann := fun r => []
def F_impl_clausesHold_d1 (s1 : Sl) (b2 o3 : Nat) (h : Hp) (R : Value → Hp → Prop) : Prop :=
  c_slices_ContainsFunc_Sint_int #[s1.v, (.func (.func i_impl_clausesHold_d1_d1) #[] #[(.pointer (some (Addr.mk b2 o3 none)))])] h fun v6 h7 => ∃ (c8 : Bool), v6 = (.bool c8) ∧ (R (.bool (!c8)) h7)
theorem E_impl_clausesHold_d1 (s1 : Sl) (b2 o3 : Nat) (h : Hp) (R : Value → Hp → Prop) : ABd PR Try.f108 A_impl_clausesHold_d1 #[s1.v, (.pointer (some (Addr.mk b2 o3 none)))] h R = F_impl_clausesHold_d1 s1 b2 o3 h R := by kernel_rfl
theorem O_impl_clausesHold_d1 : okF PR 108 = true := by kernel_rfl
theorem B_impl_clausesHold_d1 : Try.f108.body.isSome = true := by kernel_rfl
theorem R_impl_clausesHold_d1 {s1 : Sl} {b2 o3 : Nat} {h : Hp} {R : Value → Hp → Prop} (e : F_impl_clausesHold_d1 s1 b2 o3 h R) : c_impl_clausesHold_d1 #[s1.v, (.pointer (some (Addr.mk b2 o3 none)))] h R :=
  acalls mixed Try.func108 B_impl_clausesHold_d1 O_impl_clausesHold_d1 A_impl_clausesHold_d1 (by kernel_rfl) ((E_impl_clausesHold_d1 s1 b2 o3 h R).mpr e)

def A_impl_clausesHold : Ann := fun r => []
def F_impl_clausesHold (s1 : Sl) (x2 : Int) (h : Hp) (R : Value → Hp → Prop) : Prop :=
  ∀ b4 : Nat, h b4 = none → setH (h.row b4 [(I x2)] 1) fun h5 => c_slices_ContainsFunc_SSint_Sint #[s1.v, (.func (.func i_impl_clausesHold_d1) #[] #[(.pointer (some (Addr.mk b4 0 none)))])] h5 fun v7 h8 => ∃ (c9 : Bool), v7 = (.bool c9) ∧ (R (.bool (!c9)) h8)
theorem E_impl_clausesHold (s1 : Sl) (x2 : Int) (h : Hp) (R : Value → Hp → Prop) : ABd PR Try.f87 A_impl_clausesHold #[s1.v, (I x2)] h R = F_impl_clausesHold s1 x2 h R := by kernel_rfl
theorem O_impl_clausesHold : okF PR 87 = true := by kernel_rfl
theorem B_impl_clausesHold : Try.f87.body.isSome = true := by kernel_rfl
theorem R_impl_clausesHold {s1 : Sl} {x2 : Int} {h : Hp} {R : Value → Hp → Prop} (e : F_impl_clausesHold s1 x2 h R) : c_impl_clausesHold #[s1.v, (I x2)] h R :=
  acalls mixed Try.func87 B_impl_clausesHold O_impl_clausesHold A_impl_clausesHold (by kernel_rfl) ((E_impl_clausesHold s1 x2 h R).mpr e)

def A_spec_l10Literal : Ann := fun r => []
def F_spec_l10Literal (x1 : Int) (x2 : Int) (h : Hp) (R : Value → Hp → Prop) : Prop :=
  bsplit (x1 != 0) (c_spec_l1In #[(I x1), (I (W (0 - x2))), (I x2)] h fun v4 h5 => ∃ (c6 : Bool), v4 = (.bool c6) ∧ (R (.bool c6) h5)) (R (.bool false) h)
theorem E_spec_l10Literal (x1 : Int) (x2 : Int) (h : Hp) (R : Value → Hp → Prop) : ABd PR Try.f98 A_spec_l10Literal #[(I x1), (I x2)] h R = F_spec_l10Literal x1 x2 h R := by kernel_rfl
theorem O_spec_l10Literal : okF PR 98 = true := by kernel_rfl
theorem B_spec_l10Literal : Try.f98.body.isSome = true := by kernel_rfl
theorem R_spec_l10Literal {x1 : Int} {x2 : Int} {h : Hp} {R : Value → Hp → Prop} (e : F_spec_l10Literal x1 x2 h R) : c_spec_l10Literal #[(I x1), (I x2)] h R :=
  acalls mixed Try.func98 B_spec_l10Literal O_spec_l10Literal A_spec_l10Literal (by kernel_rfl) ((E_spec_l10Literal x1 x2 h R).mpr e)

def A_spec_l10Clause : Ann := fun r => if r = 4 then [(0, .slice 0), (1, .int .i64), (5, .int .i64)] else []
def F_spec_l10Clause (s1 : Sl) (x2 : Int) (h : Hp) (R : Value → Hp → Prop) : Prop :=
  bsplit (decide (((s1.n : Nat) : Int) > 10)) (R (.bool false) h) (ALoop (fun vs10 h9 next11 => ∃ (s12 : Sl) (x13 : Int) (x14 : Int), vs10 = [s12.v, (I x13), (I x14)] ∧ (bsplit (decide (x14 < ((s12.n : Nat) : Int))) (∃ b19 o20 : Nat, s12.a = some (Addr.mk b19 o20 none) ∧ (0 : Int) ≤ x14 ∧ x14 < ((s12.n : Nat) : Int) ∧ (∃ (x21 : Int), Hp.cell h9 b19 (o20 + Int.toNat x14 * 1) = some (I x21) ∧ (c_spec_l10Literal #[(I x21), (I x13)] h9 fun v22 h23 => ∃ (c24 : Bool), v22 = (.bool c24) ∧ (bsplit (!c24) (R (.bool false) h23) (next11 [s12.v, (I x13), (I (W (x14 + 1)))] h23))))) (R (.bool true) h9))) [s1.v, (I x2), (I 0)] h)
theorem E_spec_l10Clause (s1 : Sl) (x2 : Int) (h : Hp) (R : Value → Hp → Prop) : ABd PR Try.f71 A_spec_l10Clause #[s1.v, (I x2)] h R = F_spec_l10Clause s1 x2 h R := by kernel_rfl
theorem O_spec_l10Clause : okF PR 71 = true := by kernel_rfl
theorem B_spec_l10Clause : Try.f71.body.isSome = true := by kernel_rfl
theorem R_spec_l10Clause {s1 : Sl} {x2 : Int} {h : Hp} {R : Value → Hp → Prop} (e : F_spec_l10Clause s1 x2 h R) : c_spec_l10Clause #[s1.v, (I x2)] h R :=
  acalls mixed Try.func71 B_spec_l10Clause O_spec_l10Clause A_spec_l10Clause (by kernel_rfl) ((E_spec_l10Clause s1 x2 h R).mpr e)

def A_spec_CnfOk : Ann := fun r => if r = 4 then [(1, .unsafePointer), (3, .int .i64)] else []
def F_spec_CnfOk (x1 : Int) (s2 : Sl) (h : Hp) (R : Value → Hp → Prop) : Prop :=
  ∀ b4 : Nat, h b4 = none → setH (h.row b4 [(I x1), s2.v] 2) fun h5 => joinP (fun (c12 : Bool) (h13 : Hp) => bsplit c12 (R (.bool false) h13) (ALoop (fun vs19 h18 next20 => ∃ (b21 o22 : Nat) (x23 : Int), vs19 = [(.pointer (some (Addr.mk b21 o22 none))), (I x23)] ∧ (∃ (s25 : Sl), Hp.cell h18 b21 (o22 + 1) = some s25.v ∧ (bsplit (decide (x23 < ((s25.n : Nat) : Int))) (∃ (s29 : Sl), Hp.cell h18 b21 (o22 + 1) = some s29.v ∧ (∃ b30 o31 : Nat, s29.a = some (Addr.mk b30 o31 none) ∧ (0 : Int) ≤ x23 ∧ x23 < ((s29.n : Nat) : Int) ∧ (∃ (s32 : Sl), Hp.cell h18 b30 (o31 + Int.toNat x23 * 1) = some s32.v ∧ (∃ (x33 : Int), Hp.cell h18 b21 o22 = some (I x33) ∧ (c_spec_l10Clause #[s32.v, (I x33)] h18 fun v34 h35 => ∃ (c36 : Bool), v34 = (.bool c36) ∧ (bsplit (!c36) (R (.bool false) h35) (next20 [(.pointer (some (Addr.mk b21 o22 none))), (I (W (x23 + 1)))] h35))))))) (R (.bool true) h18)))) [(.pointer (some (Addr.mk b4 0 none))), (I 0)] h13)) fun J41 => ∃ (x7 : Int), Hp.cell h5 b4 0 = some (I x7) ∧ (c_spec_l1In #[(I x7), (I 1), (I 10)] h5 fun v8 h9 => ∃ (c10 : Bool), v8 = (.bool c10) ∧ (bsplit (!c10) (J41 true h9) (∃ (s11 : Sl), Hp.cell h9 b4 1 = some s11.v ∧ (J41 (decide (((s11.n : Nat) : Int) > 60)) h9))))
theorem E_spec_CnfOk (x1 : Int) (s2 : Sl) (h : Hp) (R : Value → Hp → Prop) : ABd PR Try.f27 A_spec_CnfOk #[(.agg #[(I x1), s2.v])] h R = F_spec_CnfOk x1 s2 h R := by kernel_rfl
theorem O_spec_CnfOk : okF PR 27 = true := by kernel_rfl
theorem B_spec_CnfOk : Try.f27.body.isSome = true := by kernel_rfl
theorem R_spec_CnfOk {x1 : Int} {s2 : Sl} {h : Hp} {R : Value → Hp → Prop} (e : F_spec_CnfOk x1 s2 h R) : c_spec_CnfOk #[(.agg #[(I x1), s2.v])] h R :=
  acalls mixed Try.func27 B_spec_CnfOk O_spec_CnfOk A_spec_CnfOk (by kernel_rfl) ((E_spec_CnfOk x1 s2 h R).mpr e)

def A_spec_l10Every : Ann := fun r => if r = 3 then [(3, .slice 0), (4, .int .i64)] else []
def F_spec_l10Every (x1 : Int) (s2 : Sl) (h : Hp) (R : Value → Hp → Prop) : Prop :=
  ∀ b4 : Nat, h b4 = none → setH (h.row b4 [(I x1), s2.v] 2) fun h5 => ∃ (s7 : Sl), Hp.cell h5 b4 1 = some s7.v ∧ ((0 : Int) ≤ ((s7.n : Nat) : Int) ∧ ((s7.n : Nat) : Int) ≤ ((s7.n : Nat) : Int) ∧ ((s7.n : Nat) : Int) * ((1 : Nat) : Int) ≤ 140737488355328 ∧ ((s7.n : Nat) : Int) ≤ 9223372036854775807 ∧ ∀ b8 : Nat, h5 b8 = none → setH (h5.row b8 (zeroRow #[(.bool false)] (Int.toNat ((s7.n : Nat) : Int) * 1)) (Int.toNat ((s7.n : Nat) : Int) * 1)) fun h9 => ALoop (fun vs13 h12 next14 => ∃ (s15 : Sl) (x16 : Int), vs13 = [s15.v, (I x16)] ∧ (bsplit (decide (x16 < ((s15.n : Nat) : Int))) (∃ b21 o22 : Nat, s15.a = some (Addr.mk b21 o22 none) ∧ (0 : Int) ≤ x16 ∧ x16 < ((s15.n : Nat) : Int) ∧ (∃ (cs23 : List Value) (z24 : Nat), h12 b21 = some (.inl ⟨cs23, z24, false⟩) ∧ (o22 + Int.toNat x16 * 1) + 1 ≤ List.length cs23 ∧ setH (h12.row b21 (lset cs23 (o22 + Int.toNat x16 * 1) [(.bool true)]) z24) fun h25 => next14 [s15.v, (I (W (x16 + 1)))] h25)) (R s15.v h12))) [(.slice (some (Addr.mk b8 0 none)) (Int.toNat ((s7.n : Nat) : Int)) (Int.toNat ((s7.n : Nat) : Int))), (I 0)] h9)
theorem E_spec_l10Every (x1 : Int) (s2 : Sl) (h : Hp) (R : Value → Hp → Prop) : ABd PR Try.f69 A_spec_l10Every #[(.agg #[(I x1), s2.v])] h R = F_spec_l10Every x1 s2 h R := by kernel_rfl
theorem O_spec_l10Every : okF PR 69 = true := by kernel_rfl
theorem B_spec_l10Every : Try.f69.body.isSome = true := by kernel_rfl
theorem R_spec_l10Every {x1 : Int} {s2 : Sl} {h : Hp} {R : Value → Hp → Prop} (e : F_spec_l10Every x1 s2 h R) : c_spec_l10Every #[(.agg #[(I x1), s2.v])] h R :=
  acalls mixed Try.func69 B_spec_l10Every O_spec_l10Every A_spec_l10Every (by kernel_rfl) ((E_spec_l10Every x1 s2 h R).mpr e)

end Go.Lead
