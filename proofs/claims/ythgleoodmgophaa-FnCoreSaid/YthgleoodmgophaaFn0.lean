/- The walks of the functions, part 0, written by a program: what the abstract walk of each body comes to. No statement is proved here. -/
import Derived.Test.YthgleoodmgophaaFn
set_option maxRecDepth 100000
set_option linter.unusedVariables false
namespace Go.Lead
open Go Go.Proofs

def A_spec_l1In : Ann := fun r => []
def F_spec_l1In (x1 : Int) (x2 : Int) (x3 : Int) (h : Hp) (R : Value → Hp → Prop) : Prop :=
  bsplit (decide (x1 ≥ x2)) (R (.bool (decide (x1 ≤ x3))) h) (R (.bool false) h)
theorem E_spec_l1In (x1 : Int) (x2 : Int) (x3 : Int) (h : Hp) (R : Value → Hp → Prop) : ABd PR Try.f53 A_spec_l1In #[(I x1), (I x2), (I x3)] h R = F_spec_l1In x1 x2 x3 h R := by kernel_rfl
theorem O_spec_l1In : okF PR 53 = true := by kernel_rfl
theorem B_spec_l1In : Try.f53.body.isSome = true := by kernel_rfl
theorem R_spec_l1In {x1 : Int} {x2 : Int} {x3 : Int} {h : Hp} {R : Value → Hp → Prop} (e : F_spec_l1In x1 x2 x3 h R) : c_spec_l1In #[(I x1), (I x2), (I x3)] h R :=
  acalls mixed Try.func53 B_spec_l1In O_spec_l1In A_spec_l1In (by kernel_rfl) ((E_spec_l1In x1 x2 x3 h R).mpr e)

def A_impl_in : Ann := fun r => []
def F_impl_in (x1 : Int) (x2 : Int) (x3 : Int) (h : Hp) (R : Value → Hp → Prop) : Prop :=
  bsplit (decide (x2 ≤ x1)) (R (.bool (decide (x1 ≤ x3))) h) (R (.bool false) h)
theorem E_impl_in (x1 : Int) (x2 : Int) (x3 : Int) (h : Hp) (R : Value → Hp → Prop) : ABd PR Try.f90 A_impl_in #[(I x1), (I x2), (I x3)] h R = F_impl_in x1 x2 x3 h R := by kernel_rfl
theorem O_impl_in : okF PR 90 = true := by kernel_rfl
theorem B_impl_in : Try.f90.body.isSome = true := by kernel_rfl
theorem R_impl_in {x1 : Int} {x2 : Int} {x3 : Int} {h : Hp} {R : Value → Hp → Prop} (e : F_impl_in x1 x2 x3 h R) : c_impl_in #[(I x1), (I x2), (I x3)] h R :=
  acalls mixed Try.func90 B_impl_in O_impl_in A_impl_in (by kernel_rfl) ((E_impl_in x1 x2 x3 h R).mpr e)

def A_spec_l17Open : Ann := fun r => []
def F_spec_l17Open (s1 : Sl) (h : Hp) (R : Value → Hp → Prop) : Prop :=
  bsplit (decide (((s1.n : Nat) : Int) > 2000)) ((0 : Int) ≤ (Int.ofNat 0) ∧ (Int.ofNat 0) ≤ 2000 ∧ 2000 ≤ ((s1.c : Nat) : Int) ∧ ((s1.a = none ∧ (∀ b7 : Nat, h b7 = none → setH (h.row b7 [(.slice none (Int.toNat 2000 - Int.toNat (Int.ofNat 0)) (s1.c - Int.toNat (Int.ofNat 0))), (I 0)] 2) fun h8 => R (.pointer (some (Addr.mk b7 0 none))) h8)) ∨ ∃ b4 o5 : Nat, s1.a = some (Addr.mk b4 o5 none) ∧ (∀ b10 : Nat, h b10 = none → setH (h.row b10 [(.slice (some (Addr.mk b4 (if s1.c = Int.toNat (Int.ofNat 0) then o5 else o5 + Int.toNat (Int.ofNat 0) * 1) none)) (Int.toNat 2000 - Int.toNat (Int.ofNat 0)) (s1.c - Int.toNat (Int.ofNat 0))), (I 0)] 2) fun h11 => R (.pointer (some (Addr.mk b10 0 none))) h11))) (∀ b13 : Nat, h b13 = none → setH (h.row b13 [s1.v, (I 0)] 2) fun h14 => R (.pointer (some (Addr.mk b13 0 none))) h14)
theorem E_spec_l17Open (s1 : Sl) (h : Hp) (R : Value → Hp → Prop) : ABd PR Try.f61 A_spec_l17Open #[s1.v] h R = F_spec_l17Open s1 h R := by kernel_rfl
theorem O_spec_l17Open : okF PR 61 = true := by kernel_rfl
theorem B_spec_l17Open : Try.f61.body.isSome = true := by kernel_rfl
theorem R_spec_l17Open {s1 : Sl} {h : Hp} {R : Value → Hp → Prop} (e : F_spec_l17Open s1 h R) : c_spec_l17Open #[s1.v] h R :=
  acalls mixed Try.func61 B_spec_l17Open O_spec_l17Open A_spec_l17Open (by kernel_rfl) ((E_spec_l17Open s1 h R).mpr e)

def A_spec_l17Rd_pick : Ann := fun r => []
def F_spec_l17Rd_pick (p1 : Option Addr) (x2 : Int) (h : Hp) (R : Value → Hp → Prop) : Prop :=
  ∃ b5 o6 : Nat, p1 = some (Addr.mk b5 o6 none) ∧ (∃ (x7 : Int), Hp.cell h b5 (o6 + 1) = some (I x7) ∧ (∃ b8 o9 : Nat, p1 = some (Addr.mk b8 o9 none) ∧ (∃ (cs10 : List Value) (z11 : Nat), h b8 = some (.inl ⟨cs10, z11, false⟩) ∧ (o9 + 1) + 1 ≤ List.length cs10 ∧ setH (h.row b8 (lset cs10 (o9 + 1) [(I (W (x7 + 1)))]) z11) fun h12 => joinP (fun (c17 : Bool) => bsplit c17 (R (I 0) h12) (∃ b21 o22 : Nat, p1 = some (Addr.mk b21 o22 none) ∧ (∃ (x23 : Int), Hp.cell h12 b21 (o22 + 1) = some (I x23) ∧ (∃ b25 o26 : Nat, p1 = some (Addr.mk b25 o26 none) ∧ (∃ (s27 : Sl), Hp.cell h12 b25 o26 = some s27.v ∧ (bsplit (decide ((W (x23 - 1)) < ((s27.n : Nat) : Int))) (∃ b30 o31 : Nat, p1 = some (Addr.mk b30 o31 none) ∧ (∃ (s32 : Sl), Hp.cell h12 b30 o31 = some s32.v ∧ (∃ b33 o34 : Nat, s32.a = some (Addr.mk b33 o34 none) ∧ (0 : Int) ≤ (W (x23 - 1)) ∧ (W (x23 - 1)) < ((s32.n : Nat) : Int) ∧ (∃ (x35 : Int), Hp.cell h12 b33 (o34 + Int.toNat (W (x23 - 1)) * 1) = some (.int .u8 x35) ∧ (if x2 = 0 then False else (R (I (Int.tmod (W (x35)) x2)) h12)))))) (∃ b36 o37 : Nat, p1 = some (Addr.mk b36 o37 none) ∧ (∃ b38 o39 : Nat, p1 = some (Addr.mk b38 o39 none) ∧ (∃ b40 o41 : Nat, p1 = some (Addr.mk b40 o41 none) ∧ (∃ b42 o43 : Nat, p1 = some (Addr.mk b42 o43 none) ∧ (∃ b44 o45 : Nat, p1 = some (Addr.mk b44 o45 none) ∧ (∃ (s46 : Sl), Hp.cell h12 b36 o37 = some s46.v ∧ (∃ (s47 : Sl), Hp.cell h12 b38 o39 = some s47.v ∧ (if ((s47.n : Nat) : Int) = 0 then False else (∃ b48 o49 : Nat, s46.a = some (Addr.mk b48 o49 none) ∧ (0 : Int) ≤ (Int.tmod (W (x23 - 1)) ((s47.n : Nat) : Int)) ∧ (Int.tmod (W (x23 - 1)) ((s47.n : Nat) : Int)) < ((s46.n : Nat) : Int) ∧ (∃ (x50 : Int), Hp.cell h12 b48 (o49 + Int.toNat (Int.tmod (W (x23 - 1)) ((s47.n : Nat) : Int)) * 1) = some (.int .u8 x50) ∧ (∃ (s51 : Sl), Hp.cell h12 b40 o41 = some s51.v ∧ (∃ (s52 : Sl), Hp.cell h12 b42 o43 = some s52.v ∧ (if ((s52.n : Nat) : Int) = 0 then False else (∃ b53 o54 : Nat, s51.a = some (Addr.mk b53 o54 none) ∧ (0 : Int) ≤ (Int.tmod (W ((W ((W (x23 - 1)) * 7)) + 3)) ((s52.n : Nat) : Int)) ∧ (Int.tmod (W ((W ((W (x23 - 1)) * 7)) + 3)) ((s52.n : Nat) : Int)) < ((s51.n : Nat) : Int) ∧ (∃ (x55 : Int), Hp.cell h12 b53 (o54 + Int.toNat (Int.tmod (W ((W ((W (x23 - 1)) * 7)) + 3)) ((s52.n : Nat) : Int)) * 1) = some (.int .u8 x55) ∧ (∃ (s56 : Sl), Hp.cell h12 b44 o45 = some s56.v ∧ (if ((s56.n : Nat) : Int) = 0 then False else ((h12 b44 = h12 b44 ∧ (h12 b53 = h12 b53 ∧ (h12 b42 = h12 b42 ∧ (h12 b40 = h12 b40 ∧ (h12 b44 = h12 b44 ∧ (h12 b48 = h12 b48 ∧ (h12 b38 = h12 b38 ∧ (h12 b36 = h12 b36 ∧ (if x2 = 0 then False else (R (I (Int.tmod (xorW (W ((W ((W ((W ((W (x50)) * 131)) + (W ((W (x55)) * 1117)))) + (W ((W (x23 - 1)) * 29)))) + (W ((W (Int.tdiv (W (x23 - 1)) ((s56.n : Nat) : Int))) * 53)))) (W (Int.tdiv (W ((W ((W ((W ((W (x50)) * 131)) + (W ((W (x55)) * 1117)))) + (W ((W (x23 - 1)) * 29)))) + (W ((W (Int.tdiv (W (x23 - 1)) ((s56.n : Nat) : Int))) * 53)))) 64))) x2)) h12)))))))))) ∧ (h12 b44 = h12 b44 ∧ (h12 b48 = h12 b48 ∧ (h12 b38 = h12 b38 ∧ (h12 b36 = h12 b36 ∧ (h12 b44 = h12 b44 ∧ (h12 b53 = h12 b53 ∧ (h12 b42 = h12 b42 ∧ (h12 b40 = h12 b40 ∧ (if x2 = 0 then False else (R (I (Int.tmod (xorW (W ((W ((W ((W ((W (x50)) * 131)) + (W ((W (x55)) * 1117)))) + (W ((W (x23 - 1)) * 29)))) + (W ((W (Int.tdiv (W (x23 - 1)) ((s56.n : Nat) : Int))) * 53)))) (W (Int.tdiv (W ((W ((W ((W ((W (x50)) * 131)) + (W ((W (x55)) * 1117)))) + (W ((W (x23 - 1)) * 29)))) + (W ((W (Int.tdiv (W (x23 - 1)) ((s56.n : Nat) : Int))) * 53)))) 64))) x2)) h12)))))))))))))))))))))))))))))))))) fun J61 => bsplit (decide (x2 < 1)) (J61 true) (∃ b14 o15 : Nat, p1 = some (Addr.mk b14 o15 none) ∧ (∃ (s16 : Sl), Hp.cell h12 b14 o15 = some s16.v ∧ (J61 (((s16.n : Nat) : Int) == 0)))))))
theorem E_spec_l17Rd_pick (p1 : Option Addr) (x2 : Int) (h : Hp) (R : Value → Hp → Prop) : ABd PR Try.f94 A_spec_l17Rd_pick #[(.pointer p1), (I x2)] h R = F_spec_l17Rd_pick p1 x2 h R := by kernel_rfl
theorem O_spec_l17Rd_pick : okF PR 94 = true := by kernel_rfl
theorem B_spec_l17Rd_pick : Try.f94.body.isSome = true := by kernel_rfl
theorem R_spec_l17Rd_pick {p1 : Option Addr} {x2 : Int} {h : Hp} {R : Value → Hp → Prop} (e : F_spec_l17Rd_pick p1 x2 h R) : c_spec_l17Rd_pick #[(.pointer p1), (I x2)] h R :=
  acalls mixed Try.func94 B_spec_l17Rd_pick O_spec_l17Rd_pick A_spec_l17Rd_pick (by kernel_rfl) ((E_spec_l17Rd_pick p1 x2 h R).mpr e)

def A_spec_l17Rd_cnf : Ann := fun r => if r = 10 then [(0, .pointer 0), (2, .unsafePointer), (3, .unsafePointer), (4, .int .i64), (5, .int .i64)] else if r = 17 then [(0, .pointer 0), (2, .unsafePointer), (3, .unsafePointer), (4, .int .i64), (5, .int .i64), (6, .slice 0), (7, .int .i64), (8, .int .i64)] else []
def F_spec_l17Rd_cnf (p1 : Option Addr) (h : Hp) (R : Value → Hp → Prop) : Prop :=
  ∀ b3 : Nat, h b3 = none → setH (h.row b3 [(I 0), (.slice none 0 0)] 2) fun h4 => c_spec_l17Rd_pick #[(.pointer p1), (I 5)] h4 fun v6 h7 => ∃ (x8 : Int), v6 = (I x8) ∧ (∀ b9 : Nat, h7 b9 = none → setH (h7.row b9 [(I 0), (.slice none 0 0)] 2) fun h10 => ∃ (cs11 : List Value) (z12 : Nat), h10 b9 = some (.inl ⟨cs11, z12, false⟩) ∧ 0 + 2 ≤ List.length cs11 ∧ setH (h10.row b9 (lset cs11 0 [(I (W (1 + x8))), (.slice none 0 0)]) z12) fun h13 => c_spec_l17Rd_pick #[(.pointer p1), (I 20)] h13 fun v15 h16 => ∃ (x17 : Int), v15 = (I x17) ∧ (joinP (fun  (h23 : Hp) => c_spec_l17Rd_pick #[(.pointer p1), (I 14)] h23 fun v25 h26 => ∃ (x27 : Int), v25 = (I x27) ∧ (c_spec_l17Rd_pick #[(.pointer p1), (I 3)] h26 fun v29 h30 => ∃ (x31 : Int), v29 = (I x31) ∧ (joinP (fun (x37 : Int) (h38 : Hp) => c_spec_l17Rd_pick #[(.pointer p1), (I 30)] h38 fun v40 h41 => ∃ (x42 : Int), v40 = (I x42) ∧ (joinP (fun (x48 : Int) (h49 : Hp) => ALoop (fun vs53 h52 next54 => ∃ (p55 : Option Addr) (b56 o57 : Nat) (b58 o59 : Nat) (x60 : Int) (x61 : Int), vs53 = [(.pointer p55), (.pointer (some (Addr.mk b56 o57 none))), (.pointer (some (Addr.mk b58 o59 none))), (I x60), (I x61)] ∧ (bsplit (decide (x61 < x60)) (c_spec_l17Rd_pick #[(.pointer p55), (I 3)] h52 fun v67 h68 => ∃ (x69 : Int), v67 = (I x69) ∧ (c_spec_l17Rd_pick #[(.pointer p55), (I 40)] h68 fun v71 h72 => ∃ (x73 : Int), v71 = (I x73) ∧ (joinP (fun (x79 : Int) (h80 : Hp) => ALoop (fun vs84 h83 next85 => ∃ (p86 : Option Addr) (b87 o88 : Nat) (b89 o90 : Nat) (x91 : Int) (x92 : Int) (s93 : Sl) (x94 : Int) (x95 : Int), vs84 = [(.pointer p86), (.pointer (some (Addr.mk b87 o88 none))), (.pointer (some (Addr.mk b89 o90 none))), (I x91), (I x92), s93.v, (I x94), (I x95)] ∧ (bsplit (decide (x95 < x94)) (∃ (x100 : Int), Hp.cell h83 b89 o90 = some (I x100) ∧ (c_spec_l17Rd_pick #[(.pointer p86), (I x100)] h83 fun v101 h102 => ∃ (x103 : Int), v101 = (I x103) ∧ (c_spec_l17Rd_pick #[(.pointer p86), (I 2)] h102 fun v105 h106 => ∃ (x107 : Int), v105 = (I x107) ∧ (joinP (fun (x110 : Int) => ∀ b112 : Nat, h106 b112 = none → setH (h106.row b112 [(I x110)] 1) fun h113 => aApp h113 s93.a s93.n s93.c (some (Addr.mk b112 0 none)) 1 1 8 fun a114 n115 k116 h117 => next85 [(.pointer p86), (.pointer (some (Addr.mk b87 o88 none))), (.pointer (some (Addr.mk b89 o90 none))), (I x91), (I x92), (.slice a114 n115 k116), (I x94), (I (W (x95 + 1)))] h117) fun J118 => bsplit (x107 == 0) (J118 (W (0 - (W (1 + x103))))) (J118 (W (1 + x103))))))) (∃ (s121 : Sl), Hp.cell h83 b89 (o90 + 1) = some s121.v ∧ (∀ b122 : Nat, h83 b122 = none → setH (h83.row b122 [s93.v] 1) fun h123 => aApp h123 s121.a s121.n s121.c (some (Addr.mk b122 0 none)) 1 1 24 fun a124 n125 k126 h127 => ∃ (cs128 : List Value) (z129 : Nat), h127 b89 = some (.inl ⟨cs128, z129, false⟩) ∧ (o90 + 1) + 1 ≤ List.length cs128 ∧ setH (h127.row b89 (lset cs128 (o90 + 1) [(.slice a124 n125 k126)]) z129) fun h130 => next54 [(.pointer p86), (.pointer (some (Addr.mk b87 o88 none))), (.pointer (some (Addr.mk b89 o90 none))), (I x91), (I (W (x92 + 1)))] h130)))) [(.pointer p55), (.pointer (some (Addr.mk b56 o57 none))), (.pointer (some (Addr.mk b58 o59 none))), (I x60), (I x61), (.slice none 0 0), (I x79), (I 0)] h80) fun J131 => bsplit (x73 == 0) (c_spec_l17Rd_pick #[(.pointer p55), (I 2)] h72 fun v76 h77 => ∃ (x78 : Int), v76 = (I x78) ∧ (J131 (W (x78 * 11)) h77)) (J131 (W (1 + x69)) h72)))) (c_spec_l17Rd_pick #[(.pointer p55), (I 10)] h52 fun v134 h135 => ∃ (x136 : Int), v134 = (I x136) ∧ (joinP (fun  (h184 : Hp) => ∃ (x186 : Int), Hp.cell h184 b58 o59 = some (I x186) ∧ (∃ (s187 : Sl), Hp.cell h184 b58 (o59 + 1) = some s187.v ∧ (∃ (cs188 : List Value) (z189 : Nat), h184 b56 = some (.inl ⟨cs188, z189, false⟩) ∧ o57 + 2 ≤ List.length cs188 ∧ setH (h184.row b56 (lset cs188 o57 [(I x186), s187.v]) z189) fun h190 => ∃ (x191 : Int), Hp.cell h190 b56 o57 = some (I x191) ∧ (∃ (s192 : Sl), Hp.cell h190 b56 (o57 + 1) = some s192.v ∧ (R (.agg #[(I x191), s192.v]) h190))))) fun J193 => bsplit (x136 == 0) (c_spec_l17Rd_pick #[(.pointer p55), (I 3)] h135 fun v139 h140 => ∃ (x141 : Int), v139 = (I x141) ∧ (bsplit (x141 == 0) (∀ b144 : Nat, h140 b144 = none → setH (h140.row b144 [(I 0), (I 11), (I (-1))] 3) fun h145 => c_spec_l17Rd_pick #[(.pointer p55), (I 3)] h145 fun v146 h147 => ∃ (x148 : Int), v146 = (I x148) ∧ (∃ b149 o150 : Nat, (some (Addr.mk b144 0 none)) = some (Addr.mk b149 o150 none) ∧ (0 : Int) ≤ x148 ∧ x148 < ((3 : Nat) : Int) ∧ (∃ (x151 : Int), Hp.cell h147 b149 (o150 + Int.toNat x148 * 1) = some (I x151) ∧ (∃ (cs152 : List Value) (z153 : Nat), h147 b58 = some (.inl ⟨cs152, z153, false⟩) ∧ o59 + 1 ≤ List.length cs152 ∧ setH (h147.row b58 (lset cs152 o59 [(I x151)]) z153) fun h154 => J193 h154)))) (bsplit (x141 == 1) (∃ (s157 : Sl), Hp.cell h140 b58 (o59 + 1) = some s157.v ∧ (∀ b158 : Nat, h140 b158 = none → setH (h140.row b158 [(I 0)] 1) fun h159 => ∀ b160 : Nat, h159 b160 = none → setH (h159.row b160 [(.slice (some (Addr.mk b158 0 none)) 1 1)] 1) fun h161 => aApp h161 s157.a s157.n s157.c (some (Addr.mk b160 0 none)) 1 1 24 fun a162 n163 k164 h165 => ∃ (cs166 : List Value) (z167 : Nat), h165 b58 = some (.inl ⟨cs166, z167, false⟩) ∧ (o59 + 1) + 1 ≤ List.length cs166 ∧ setH (h165.row b58 (lset cs166 (o59 + 1) [(.slice a162 n163 k164)]) z167) fun h168 => J193 h168)) (bsplit (x141 == 2) (∃ (s171 : Sl), Hp.cell h140 b58 (o59 + 1) = some s171.v ∧ (∃ (x172 : Int), Hp.cell h140 b58 o59 = some (I x172) ∧ (∀ b173 : Nat, h140 b173 = none → setH (h140.row b173 [(I (W (x172 + 1)))] 1) fun h174 => ∀ b175 : Nat, h174 b175 = none → setH (h174.row b175 [(.slice (some (Addr.mk b173 0 none)) 1 1)] 1) fun h176 => aApp h176 s171.a s171.n s171.c (some (Addr.mk b175 0 none)) 1 1 24 fun a177 n178 k179 h180 => ∃ (cs181 : List Value) (z182 : Nat), h180 b58 = some (.inl ⟨cs181, z182, false⟩) ∧ (o59 + 1) + 1 ≤ List.length cs181 ∧ setH (h180.row b58 (lset cs181 (o59 + 1) [(.slice a177 n178 k179)]) z182) fun h183 => J193 h183))) (J193 h140))))) (J193 h135))))) [(.pointer p1), (.pointer (some (Addr.mk b3 0 none))), (.pointer (some (Addr.mk b9 0 none))), (I x48), (I 0)] h49) fun J194 => bsplit (x42 == 0) (c_spec_l17Rd_pick #[(.pointer p1), (I 3)] h41 fun v45 h46 => ∃ (x47 : Int), v45 = (I x47) ∧ (J194 (W (59 + x47)) h46)) (J194 x37 h41))) fun J195 => bsplit (x31 == 0) (c_spec_l17Rd_pick #[(.pointer p1), (I 20)] h30 fun v34 h35 => ∃ (x36 : Int), v34 = (I x36) ∧ (J195 (W (12 + x36)) h35)) (J195 x27 h30)))) fun J196 => bsplit (x17 == 0) (∃ (cs20 : List Value) (z21 : Nat), h16 b9 = some (.inl ⟨cs20, z21, false⟩) ∧ 0 + 1 ≤ List.length cs20 ∧ setH (h16.row b9 (lset cs20 0 [(I 10)]) z21) fun h22 => J196 h22) (J196 h16)))
theorem E_spec_l17Rd_cnf (p1 : Option Addr) (h : Hp) (R : Value → Hp → Prop) : ABd PR Try.f62 A_spec_l17Rd_cnf #[(.pointer p1)] h R = F_spec_l17Rd_cnf p1 h R := by kernel_rfl
theorem O_spec_l17Rd_cnf : okF PR 62 = true := by kernel_rfl
theorem B_spec_l17Rd_cnf : Try.f62.body.isSome = true := by kernel_rfl
theorem R_spec_l17Rd_cnf {p1 : Option Addr} {h : Hp} {R : Value → Hp → Prop} (e : F_spec_l17Rd_cnf p1 h R) : c_spec_l17Rd_cnf #[(.pointer p1)] h R :=
  acalls mixed Try.func62 B_spec_l17Rd_cnf O_spec_l17Rd_cnf A_spec_l17Rd_cnf (by kernel_rfl) ((E_spec_l17Rd_cnf p1 h R).mpr e)

def A_spec_DrawSatCore : Ann := fun r => []
def F_spec_DrawSatCore (s1 : Sl) (h : Hp) (R : Value → Hp → Prop) : Prop :=
  ∀ b3 : Nat, h b3 = none → setH (h.row b3 [(I 0), (.slice none 0 0)] 2) fun h4 => c_spec_l17Open #[s1.v] h4 fun v6 h7 => ∃ (p8 : Option Addr), v6 = (.pointer p8) ∧ (c_spec_l17Rd_cnf #[(.pointer p8)] h7 fun v10 h11 => ∃ (x12 : Int) (s13 : Sl), v10 = (.agg #[(I x12), s13.v]) ∧ (∃ (cs14 : List Value) (z15 : Nat), h11 b3 = some (.inl ⟨cs14, z15, false⟩) ∧ 0 + 2 ≤ List.length cs14 ∧ setH (h11.row b3 (lset cs14 0 [(I x12), s13.v]) z15) fun h16 => ∃ (x17 : Int), Hp.cell h16 b3 0 = some (I x17) ∧ (∃ (s18 : Sl), Hp.cell h16 b3 1 = some s18.v ∧ (R (.agg #[(I x17), s18.v]) h16))))
theorem E_spec_DrawSatCore (s1 : Sl) (h : Hp) (R : Value → Hp → Prop) : ABd PR Try.f22 A_spec_DrawSatCore #[s1.v] h R = F_spec_DrawSatCore s1 h R := by kernel_rfl
theorem O_spec_DrawSatCore : okF PR 22 = true := by kernel_rfl
theorem B_spec_DrawSatCore : Try.f22.body.isSome = true := by kernel_rfl
theorem R_spec_DrawSatCore {s1 : Sl} {h : Hp} {R : Value → Hp → Prop} (e : F_spec_DrawSatCore s1 h R) : c_spec_DrawSatCore #[s1.v] h R :=
  acalls mixed Try.func22 B_spec_DrawSatCore O_spec_DrawSatCore A_spec_DrawSatCore (by kernel_rfl) ((E_spec_DrawSatCore s1 h R).mpr e)

def A_slices_IndexFunc_SSint_Sint : Ann := fun r => if r = 2 then [(0, .slice 0), (1, .func #[] #[] false), (7, .int .i64), (8, .int .i64)] else []
def F_slices_IndexFunc_SSint_Sint (s1 : Sl) (f2 : FuncId) (u3 w4 : Array Value) (h : Hp) (R : Value → Hp → Prop) : Prop :=
  ALoop (fun vs9 h8 next10 => ∃ (s11 : Sl) (f12 : FuncId) (u13 w14 : Array Value) (x15 : Int) (x16 : Int), vs9 = [s11.v, (.func (.func f12) u13 w14), (I x15), (I x16)] ∧ (bsplit (decide (x16 < x15)) (∃ b22 o23 : Nat, s11.a = some (Addr.mk b22 o23 none) ∧ (0 : Int) ≤ x16 ∧ x16 < ((s11.n : Nat) : Int) ∧ (∃ (s24 : Sl), Hp.cell h8 b22 (o23 + Int.toNat x16 * 1) = some s24.v ∧ (ACalls PR f12 ((u13 ++ List.toArray [s24.v]) ++ w14) h8 fun v25 h26 => ∃ (c27 : Bool), v25 = (.bool c27) ∧ (bsplit c27 (R (I x16) h26) (next10 [s11.v, (.func (.func f12) u13 w14), (I x15), (I (W (x16 + 1)))] h26))))) (R (I (-1)) h8))) [s1.v, (.func (.func f2) u3 w4), (I ((s1.n : Nat) : Int)), (I 0)] h
theorem E_slices_IndexFunc_SSint_Sint (s1 : Sl) (f2 : FuncId) (u3 w4 : Array Value) (h : Hp) (R : Value → Hp → Prop) : ABd PR Try.f112 A_slices_IndexFunc_SSint_Sint #[s1.v, (.func (.func f2) u3 w4)] h R = F_slices_IndexFunc_SSint_Sint s1 f2 u3 w4 h R := by kernel_rfl
theorem O_slices_IndexFunc_SSint_Sint : okF PR 112 = true := by kernel_rfl
theorem B_slices_IndexFunc_SSint_Sint : Try.f112.body.isSome = true := by kernel_rfl
theorem R_slices_IndexFunc_SSint_Sint {s1 : Sl} {f2 : FuncId} {u3 w4 : Array Value} {h : Hp} {R : Value → Hp → Prop} (e : F_slices_IndexFunc_SSint_Sint s1 f2 u3 w4 h R) : c_slices_IndexFunc_SSint_Sint #[s1.v, (.func (.func f2) u3 w4)] h R :=
  acalls mixed Try.func112 B_slices_IndexFunc_SSint_Sint O_slices_IndexFunc_SSint_Sint A_slices_IndexFunc_SSint_Sint (by kernel_rfl) ((E_slices_IndexFunc_SSint_Sint s1 f2 u3 w4 h R).mpr e)

def A_slices_ContainsFunc_SSint_Sint : Ann := fun r => []
def F_slices_ContainsFunc_SSint_Sint (s1 : Sl) (f2 : FuncId) (u3 w4 : Array Value) (h : Hp) (R : Value → Hp → Prop) : Prop :=
  c_slices_IndexFunc_SSint_Sint #[s1.v, (.func (.func f2) u3 w4)] h fun v7 h8 => ∃ (x9 : Int), v7 = (I x9) ∧ (R (.bool (decide (x9 ≥ 0))) h8)
theorem E_slices_ContainsFunc_SSint_Sint (s1 : Sl) (f2 : FuncId) (u3 w4 : Array Value) (h : Hp) (R : Value → Hp → Prop) : ABd PR Try.f95 A_slices_ContainsFunc_SSint_Sint #[s1.v, (.func (.func f2) u3 w4)] h R = F_slices_ContainsFunc_SSint_Sint s1 f2 u3 w4 h R := by kernel_rfl
theorem O_slices_ContainsFunc_SSint_Sint : okF PR 95 = true := by kernel_rfl
theorem B_slices_ContainsFunc_SSint_Sint : Try.f95.body.isSome = true := by kernel_rfl
theorem R_slices_ContainsFunc_SSint_Sint {s1 : Sl} {f2 : FuncId} {u3 w4 : Array Value} {h : Hp} {R : Value → Hp → Prop} (e : F_slices_ContainsFunc_SSint_Sint s1 f2 u3 w4 h R) : c_slices_ContainsFunc_SSint_Sint #[s1.v, (.func (.func f2) u3 w4)] h R :=
  acalls mixed Try.func95 B_slices_ContainsFunc_SSint_Sint O_slices_ContainsFunc_SSint_Sint A_slices_ContainsFunc_SSint_Sint (by kernel_rfl) ((E_slices_ContainsFunc_SSint_Sint s1 f2 u3 w4 h R).mpr e)

def A_slices_IndexFunc_Sint_int : Ann := fun r => if r = 2 then [(0, .slice 0), (1, .func #[] #[] false), (7, .int .i64), (8, .int .i64)] else []
def F_slices_IndexFunc_Sint_int (s1 : Sl) (f2 : FuncId) (u3 w4 : Array Value) (h : Hp) (R : Value → Hp → Prop) : Prop :=
  ALoop (fun vs9 h8 next10 => ∃ (s11 : Sl) (f12 : FuncId) (u13 w14 : Array Value) (x15 : Int) (x16 : Int), vs9 = [s11.v, (.func (.func f12) u13 w14), (I x15), (I x16)] ∧ (bsplit (decide (x16 < x15)) (∃ b22 o23 : Nat, s11.a = some (Addr.mk b22 o23 none) ∧ (0 : Int) ≤ x16 ∧ x16 < ((s11.n : Nat) : Int) ∧ (∃ (x24 : Int), Hp.cell h8 b22 (o23 + Int.toNat x16 * 1) = some (I x24) ∧ (ACalls PR f12 ((u13 ++ List.toArray [(I x24)]) ++ w14) h8 fun v25 h26 => ∃ (c27 : Bool), v25 = (.bool c27) ∧ (bsplit c27 (R (I x16) h26) (next10 [s11.v, (.func (.func f12) u13 w14), (I x15), (I (W (x16 + 1)))] h26))))) (R (I (-1)) h8))) [s1.v, (.func (.func f2) u3 w4), (I ((s1.n : Nat) : Int)), (I 0)] h
theorem E_slices_IndexFunc_Sint_int (s1 : Sl) (f2 : FuncId) (u3 w4 : Array Value) (h : Hp) (R : Value → Hp → Prop) : ABd PR Try.f97 A_slices_IndexFunc_Sint_int #[s1.v, (.func (.func f2) u3 w4)] h R = F_slices_IndexFunc_Sint_int s1 f2 u3 w4 h R := by kernel_rfl
theorem O_slices_IndexFunc_Sint_int : okF PR 97 = true := by kernel_rfl
theorem B_slices_IndexFunc_Sint_int : Try.f97.body.isSome = true := by kernel_rfl
theorem R_slices_IndexFunc_Sint_int {s1 : Sl} {f2 : FuncId} {u3 w4 : Array Value} {h : Hp} {R : Value → Hp → Prop} (e : F_slices_IndexFunc_Sint_int s1 f2 u3 w4 h R) : c_slices_IndexFunc_Sint_int #[s1.v, (.func (.func f2) u3 w4)] h R :=
  acalls mixed Try.func97 B_slices_IndexFunc_Sint_int O_slices_IndexFunc_Sint_int A_slices_IndexFunc_Sint_int (by kernel_rfl) ((E_slices_IndexFunc_Sint_int s1 f2 u3 w4 h R).mpr e)

def A_slices_ContainsFunc_Sint_int : Ann := fun r => []
def F_slices_ContainsFunc_Sint_int (s1 : Sl) (f2 : FuncId) (u3 w4 : Array Value) (h : Hp) (R : Value → Hp → Prop) : Prop :=
  c_slices_IndexFunc_Sint_int #[s1.v, (.func (.func f2) u3 w4)] h fun v7 h8 => ∃ (x9 : Int), v7 = (I x9) ∧ (R (.bool (decide (x9 ≥ 0))) h8)
theorem E_slices_ContainsFunc_Sint_int (s1 : Sl) (f2 : FuncId) (u3 w4 : Array Value) (h : Hp) (R : Value → Hp → Prop) : ABd PR Try.f100 A_slices_ContainsFunc_Sint_int #[s1.v, (.func (.func f2) u3 w4)] h R = F_slices_ContainsFunc_Sint_int s1 f2 u3 w4 h R := by kernel_rfl
theorem O_slices_ContainsFunc_Sint_int : okF PR 100 = true := by kernel_rfl
theorem B_slices_ContainsFunc_Sint_int : Try.f100.body.isSome = true := by kernel_rfl
theorem R_slices_ContainsFunc_Sint_int {s1 : Sl} {f2 : FuncId} {u3 w4 : Array Value} {h : Hp} {R : Value → Hp → Prop} (e : F_slices_ContainsFunc_Sint_int s1 f2 u3 w4 h R) : c_slices_ContainsFunc_Sint_int #[s1.v, (.func (.func f2) u3 w4)] h R :=
  acalls mixed Try.func100 B_slices_ContainsFunc_Sint_int O_slices_ContainsFunc_Sint_int A_slices_ContainsFunc_Sint_int (by kernel_rfl) ((E_slices_ContainsFunc_Sint_int s1 f2 u3 w4 h R).mpr e)

def A_impl_clauseOk_d1 : Ann := fun r => []
def F_impl_clauseOk_d1 (x1 : Int) (b2 o3 : Nat) (h : Hp) (R : Value → Hp → Prop) : Prop :=
  bsplit (x1 == 0) (R (.bool true) h) (∃ (x5 : Int), Hp.cell h b2 o3 = some (I x5) ∧ (∃ (x6 : Int), Hp.cell h b2 o3 = some (I x6) ∧ (c_impl_in #[(I x1), (I (W (0 - x5))), (I x6)] h fun v7 h8 => ∃ (c9 : Bool), v7 = (.bool c9) ∧ (R (.bool (!c9)) h8))))
theorem E_impl_clauseOk_d1 (x1 : Int) (b2 o3 : Nat) (h : Hp) (R : Value → Hp → Prop) : ABd PR Try.f101 A_impl_clauseOk_d1 #[(I x1), (.pointer (some (Addr.mk b2 o3 none)))] h R = F_impl_clauseOk_d1 x1 b2 o3 h R := by kernel_rfl
theorem O_impl_clauseOk_d1 : okF PR 101 = true := by kernel_rfl
theorem B_impl_clauseOk_d1 : Try.f101.body.isSome = true := by kernel_rfl
theorem R_impl_clauseOk_d1 {x1 : Int} {b2 o3 : Nat} {h : Hp} {R : Value → Hp → Prop} (e : F_impl_clauseOk_d1 x1 b2 o3 h R) : c_impl_clauseOk_d1 #[(I x1), (.pointer (some (Addr.mk b2 o3 none)))] h R :=
  acalls mixed Try.func101 B_impl_clauseOk_d1 O_impl_clauseOk_d1 A_impl_clauseOk_d1 (by kernel_rfl) ((E_impl_clauseOk_d1 x1 b2 o3 h R).mpr e)

def A_impl_clauseOk : Ann := fun r => []
def F_impl_clauseOk (x1 : Int) (s2 : Sl) (h : Hp) (R : Value → Hp → Prop) : Prop :=
  ∀ b4 : Nat, h b4 = none → setH (h.row b4 [(I x1)] 1) fun h5 => bsplit (decide (((s2.n : Nat) : Int) ≤ 10)) (c_slices_ContainsFunc_Sint_int #[s2.v, (.func (.func i_impl_clauseOk_d1) #[] #[(.pointer (some (Addr.mk b4 0 none)))])] h5 fun v6 h7 => ∃ (c8 : Bool), v6 = (.bool c8) ∧ (R (.bool (!c8)) h7)) (R (.bool false) h5)
theorem E_impl_clauseOk (x1 : Int) (s2 : Sl) (h : Hp) (R : Value → Hp → Prop) : ABd PR Try.f74 A_impl_clauseOk #[(I x1), s2.v] h R = F_impl_clauseOk x1 s2 h R := by kernel_rfl
theorem O_impl_clauseOk : okF PR 74 = true := by kernel_rfl
theorem B_impl_clauseOk : Try.f74.body.isSome = true := by kernel_rfl
theorem R_impl_clauseOk {x1 : Int} {s2 : Sl} {h : Hp} {R : Value → Hp → Prop} (e : F_impl_clauseOk x1 s2 h R) : c_impl_clauseOk #[(I x1), s2.v] h R :=
  acalls mixed Try.func74 B_impl_clauseOk O_impl_clauseOk A_impl_clauseOk (by kernel_rfl) ((E_impl_clauseOk x1 s2 h R).mpr e)

def A_impl_CnfOk_d1 : Ann := fun r => []
def F_impl_CnfOk_d1 (s1 : Sl) (b2 o3 : Nat) (h : Hp) (R : Value → Hp → Prop) : Prop :=
  ∃ (x6 : Int), Hp.cell h b2 o3 = some (I x6) ∧ (c_impl_clauseOk #[(I x6), s1.v] h fun v7 h8 => ∃ (c9 : Bool), v7 = (.bool c9) ∧ (R (.bool (!c9)) h8))
theorem E_impl_CnfOk_d1 (s1 : Sl) (b2 o3 : Nat) (h : Hp) (R : Value → Hp → Prop) : ABd PR Try.f96 A_impl_CnfOk_d1 #[s1.v, (.pointer (some (Addr.mk b2 o3 none)))] h R = F_impl_CnfOk_d1 s1 b2 o3 h R := by kernel_rfl
theorem O_impl_CnfOk_d1 : okF PR 96 = true := by kernel_rfl
theorem B_impl_CnfOk_d1 : Try.f96.body.isSome = true := by kernel_rfl
theorem R_impl_CnfOk_d1 {s1 : Sl} {b2 o3 : Nat} {h : Hp} {R : Value → Hp → Prop} (e : F_impl_CnfOk_d1 s1 b2 o3 h R) : c_impl_CnfOk_d1 #[s1.v, (.pointer (some (Addr.mk b2 o3 none)))] h R :=
  acalls mixed Try.func96 B_impl_CnfOk_d1 O_impl_CnfOk_d1 A_impl_CnfOk_d1 (by kernel_rfl) ((E_impl_CnfOk_d1 s1 b2 o3 h R).mpr e)

def A_impl_CnfOk : Ann := fun r => []
def F_impl_CnfOk (x1 : Int) (s2 : Sl) (h : Hp) (R : Value → Hp → Prop) : Prop :=
  ∀ b4 : Nat, h b4 = none → setH (h.row b4 [(I x1), s2.v] 2) fun h5 => ∃ (x6 : Int), Hp.cell h5 b4 0 = some (I x6) ∧ (c_impl_in #[(I x6), (I 1), (I 10)] h5 fun v7 h8 => ∃ (c9 : Bool), v7 = (.bool c9) ∧ (bsplit c9 (∃ (s10 : Sl), Hp.cell h8 b4 1 = some s10.v ∧ (bsplit (decide (((s10.n : Nat) : Int) ≤ 60)) (∃ (s11 : Sl), Hp.cell h8 b4 1 = some s11.v ∧ (c_slices_ContainsFunc_SSint_Sint #[s11.v, (.func (.func i_impl_CnfOk_d1) #[] #[(.pointer (some (Addr.mk b4 0 none)))])] h8 fun v12 h13 => ∃ (c14 : Bool), v12 = (.bool c14) ∧ (R (.bool (!c14)) h13))) (R (.bool false) h8))) (R (.bool false) h8)))
theorem E_impl_CnfOk (x1 : Int) (s2 : Sl) (h : Hp) (R : Value → Hp → Prop) : ABd PR Try.f63 A_impl_CnfOk #[(.agg #[(I x1), s2.v])] h R = F_impl_CnfOk x1 s2 h R := by kernel_rfl
theorem O_impl_CnfOk : okF PR 63 = true := by kernel_rfl
theorem B_impl_CnfOk : Try.f63.body.isSome = true := by kernel_rfl
theorem R_impl_CnfOk {x1 : Int} {s2 : Sl} {h : Hp} {R : Value → Hp → Prop} (e : F_impl_CnfOk x1 s2 h R) : c_impl_CnfOk #[(.agg #[(I x1), s2.v])] h R :=
  acalls mixed Try.func63 B_impl_CnfOk O_impl_CnfOk A_impl_CnfOk (by kernel_rfl) ((E_impl_CnfOk x1 s2 h R).mpr e)

def A_impl_literal : Ann := fun r => []
def F_impl_literal (x1 : Int) (x2 : Int) (h : Hp) (R : Value → Hp → Prop) : Prop :=
  bsplit (decide (x1 < 0)) (if (W ((W (0 - x1)) - 1)) < 0 then False else (R (.bool ((andW (shrW x2 (W ((W (0 - x1)) - 1))) 1) == 0)) h)) (if (W (x1 - 1)) < 0 then False else (R (.bool ((andW (shrW x2 (W (x1 - 1))) 1) == 1)) h))
theorem E_impl_literal (x1 : Int) (x2 : Int) (h : Hp) (R : Value → Hp → Prop) : ABd PR Try.f110 A_impl_literal #[(I x1), (I x2)] h R = F_impl_literal x1 x2 h R := by kernel_rfl
theorem O_impl_literal : okF PR 110 = true := by kernel_rfl
theorem B_impl_literal : Try.f110.body.isSome = true := by kernel_rfl
theorem R_impl_literal {x1 : Int} {x2 : Int} {h : Hp} {R : Value → Hp → Prop} (e : F_impl_literal x1 x2 h R) : c_impl_literal #[(I x1), (I x2)] h R :=
  acalls mixed Try.func110 B_impl_literal O_impl_literal A_impl_literal (by kernel_rfl) ((E_impl_literal x1 x2 h R).mpr e)

def A_impl_clausesHold_d1_d1 : Ann := fun r => []
def F_impl_clausesHold_d1_d1 (x1 : Int) (b2 o3 : Nat) (h : Hp) (R : Value → Hp → Prop) : Prop :=
  ∃ (x6 : Int), Hp.cell h b2 o3 = some (I x6) ∧ (c_impl_literal #[(I x1), (I x6)] h fun v7 h8 => ∃ (c9 : Bool), v7 = (.bool c9) ∧ (R (.bool c9) h8))
theorem E_impl_clausesHold_d1_d1 (x1 : Int) (b2 o3 : Nat) (h : Hp) (R : Value → Hp → Prop) : ABd PR Try.f109 A_impl_clausesHold_d1_d1 #[(I x1), (.pointer (some (Addr.mk b2 o3 none)))] h R = F_impl_clausesHold_d1_d1 x1 b2 o3 h R := by kernel_rfl
theorem O_impl_clausesHold_d1_d1 : okF PR 109 = true := by kernel_rfl
theorem B_impl_clausesHold_d1_d1 : Try.f109.body.isSome = true := by kernel_rfl
theorem R_impl_clausesHold_d1_d1 {x1 : Int} {b2 o3 : Nat} {h : Hp} {R : Value → Hp → Prop} (e : F_impl_clausesHold_d1_d1 x1 b2 o3 h R) : c_impl_clausesHold_d1_d1 #[(I x1), (.pointer (some (Addr.mk b2 o3 none)))] h R :=
  acalls mixed Try.func109 B_impl_clausesHold_d1_d1 O_impl_clausesHold_d1_d1 A_impl_clausesHold_d1_d1 (by kernel_rfl) ((E_impl_clausesHold_d1_d1 x1 b2 o3 h R).mpr e)

def A_impl_clausesHold_d1 : Ann := fun r => []
def F_impl_clausesHold_d1 (s1 : Sl) (b2 o3 : Nat) (h : Hp) (R : Value → Hp → Prop) : Prop :=
  c_slices_ContainsFunc_Sint_int #[s1.v, (.func (.func i_impl_clausesHold_d1_d1) #[] #[(.pointer (some (Addr.mk b2 o3 none)))])] h fun v6 h7 => ∃ (c8 : Bool), v6 = (.bool c8) ∧ (R (.bool (!c8)) h7)
theorem E_impl_clausesHold_d1 (s1 : Sl) (b2 o3 : Nat) (h : Hp) (R : Value → Hp → Prop) : ABd PR Try.f108 A_impl_clausesHold_d1 #[s1.v, (.pointer (some (Addr.mk b2 o3 none)))] h R = F_impl_clausesHold_d1 s1 b2 o3 h R := by kernel_rfl
theorem O_impl_clausesHold_d1 : okF PR 108 = true := by kernel_rfl
theorem B_impl_clausesHold_d1 : Try.f108.body.isSome = true := by kernel_rfl
theorem R_impl_clausesHold_d1 {s1 : Sl} {b2 o3 : Nat} {h : Hp} {R : Value → Hp → Prop} (e : F_impl_clausesHold_d1 s1 b2 o3 h R) : c_impl_clausesHold_d1 #[s1.v, (.pointer (some (Addr.mk b2 o3 none)))] h R :=
  acalls mixed Try.func108 B_impl_clausesHold_d1 O_impl_clausesHold_d1 A_impl_clausesHold_d1 (by kernel_rfl) ((E_impl_clausesHold_d1 s1 b2 o3 h R).mpr e)

def A_impl_clausesHold : Ann := fun r => []
def F_impl_clausesHold (s1 : Sl) (x2 : Int) (h : Hp) (R : Value → Hp → Prop) : Prop :=
  ∀ b4 : Nat, h b4 = none → setH (h.row b4 [(I x2)] 1) fun h5 => c_slices_ContainsFunc_SSint_Sint #[s1.v, (.func (.func i_impl_clausesHold_d1) #[] #[(.pointer (some (Addr.mk b4 0 none)))])] h5 fun v7 h8 => ∃ (c9 : Bool), v7 = (.bool c9) ∧ (R (.bool (!c9)) h8)
theorem E_impl_clausesHold (s1 : Sl) (x2 : Int) (h : Hp) (R : Value → Hp → Prop) : ABd PR Try.f87 A_impl_clausesHold #[s1.v, (I x2)] h R = F_impl_clausesHold s1 x2 h R := by kernel_rfl
theorem O_impl_clausesHold : okF PR 87 = true := by kernel_rfl
theorem B_impl_clausesHold : Try.f87.body.isSome = true := by kernel_rfl
theorem R_impl_clausesHold {s1 : Sl} {x2 : Int} {h : Hp} {R : Value → Hp → Prop} (e : F_impl_clausesHold s1 x2 h R) : c_impl_clausesHold #[s1.v, (I x2)] h R :=
  acalls mixed Try.func87 B_impl_clausesHold O_impl_clausesHold A_impl_clausesHold (by kernel_rfl) ((E_impl_clausesHold s1 x2 h R).mpr e)

def A_impl_least : Ann := fun r => if r = 2 then [(1, .slice 0), (7, .int .i64), (8, .int .i64)] else []
def F_impl_least (x1 : Int) (s2 : Sl) (h : Hp) (R : Value → Hp → Prop) : Prop :=
  if x1 < 0 then False else (ALoop (fun vs7 h6 next8 => ∃ (s9 : Sl) (x10 : Int) (x11 : Int), vs7 = [s9.v, (I x10), (I x11)] ∧ (bsplit (decide (x11 < x10)) (c_impl_clausesHold #[s9.v, (I x11)] h6 fun v17 h18 => ∃ (c19 : Bool), v17 = (.bool c19) ∧ (bsplit c19 (R (I x11) h18) (next8 [s9.v, (I x10), (I (W (x11 + 1)))] h18))) (R (I (-1)) h6))) [s2.v, (I (shlW 1 x1)), (I 0)] h)
theorem E_impl_least (x1 : Int) (s2 : Sl) (h : Hp) (R : Value → Hp → Prop) : ABd PR Try.f64 A_impl_least #[(I x1), s2.v] h R = F_impl_least x1 s2 h R := by kernel_rfl
theorem O_impl_least : okF PR 64 = true := by kernel_rfl
theorem B_impl_least : Try.f64.body.isSome = true := by kernel_rfl
theorem R_impl_least {x1 : Int} {s2 : Sl} {h : Hp} {R : Value → Hp → Prop} (e : F_impl_least x1 s2 h R) : c_impl_least #[(I x1), s2.v] h R :=
  acalls mixed Try.func64 B_impl_least O_impl_least A_impl_least (by kernel_rfl) ((E_impl_least x1 s2 h R).mpr e)

def A_slices_DeleteFunc_Sint_int : Ann := fun r => if r = 5 then [(0, .slice 0), (1, .func #[] #[] false), (5, .int .i64), (6, .int .i64)] else []
def F_slices_DeleteFunc_Sint_int (s1 : Sl) (f2 : FuncId) (u3 w4 : Array Value) (h : Hp) (R : Value → Hp → Prop) : Prop :=
  c_slices_IndexFunc_Sint_int #[s1.v, (.func (.func f2) u3 w4)] h fun v7 h8 => ∃ (x9 : Int), v7 = (I x9) ∧ (bsplit (x9 == (-1)) (R s1.v h8) (ALoop (fun vs16 h15 next17 => ∃ (s18 : Sl) (f19 : FuncId) (u20 w21 : Array Value) (x22 : Int) (x23 : Int), vs16 = [s18.v, (.func (.func f19) u20 w21), (I x22), (I x23)] ∧ (bsplit (decide (x23 < ((s18.n : Nat) : Int))) (∃ b27 o28 : Nat, s18.a = some (Addr.mk b27 o28 none) ∧ (0 : Int) ≤ x23 ∧ x23 < ((s18.n : Nat) : Int) ∧ (∃ (x29 : Int), Hp.cell h15 b27 (o28 + Int.toNat x23 * 1) = some (I x29) ∧ (ACalls PR f19 ((u20 ++ List.toArray [(I x29)]) ++ w21) h15 fun v31 h32 => ∃ (c33 : Bool), v31 = (.bool c33) ∧ (bsplit (!c33) (∃ b35 o36 : Nat, s18.a = some (Addr.mk b35 o36 none) ∧ (0 : Int) ≤ x22 ∧ x22 < ((s18.n : Nat) : Int) ∧ (∃ (cs37 : List Value) (z38 : Nat), h32 b35 = some (.inl ⟨cs37, z38, false⟩) ∧ (o36 + Int.toNat x22 * 1) + 1 ≤ List.length cs37 ∧ setH (h32.row b35 (lset cs37 (o36 + Int.toNat x22 * 1) [(I x29)]) z38) fun h39 => next17 [s18.v, (.func (.func f19) u20 w21), (I (W (x22 + 1))), (I (W (x23 + 1)))] h39)) (next17 [s18.v, (.func (.func f19) u20 w21), (I x22), (I (W (x23 + 1)))] h32))))) (joinP (fun  (h56 : Hp) => (0 : Int) ≤ (Int.ofNat 0) ∧ (Int.ofNat 0) ≤ x22 ∧ x22 ≤ ((s18.c : Nat) : Int) ∧ ((s18.a = none ∧ (R (.slice none (Int.toNat x22 - Int.toNat (Int.ofNat 0)) (s18.c - Int.toNat (Int.ofNat 0))) h56)) ∨ ∃ b57 o58 : Nat, s18.a = some (Addr.mk b57 o58 none) ∧ (R (.slice (some (Addr.mk b57 (if s18.c = Int.toNat (Int.ofNat 0) then o58 else o58 + Int.toNat (Int.ofNat 0) * 1) none)) (Int.toNat x22 - Int.toNat (Int.ofNat 0)) (s18.c - Int.toNat (Int.ofNat 0))) h56))) fun J59 => (0 : Int) ≤ x22 ∧ x22 ≤ (Int.ofNat s18.n) ∧ (Int.ofNat s18.n) ≤ ((s18.c : Nat) : Int) ∧ ((s18.a = none ∧ ((((Int.toNat (Int.ofNat s18.n) - Int.toNat x22) = 0 ∧ (J59 h15)) ∨ ∃ (b46 o47 : Nat) (cs48 : List Value) (z49 : Nat), none = some (Addr.mk b46 o47 none) ∧ h15 b46 = some (.inl ⟨cs48, z49, false⟩) ∧ o47 + (Int.toNat (Int.ofNat s18.n) - Int.toNat x22) * 1 ≤ List.length cs48 ∧ List.all (Array.toList #[(I 0)]) (fun v => v.oneCell') = true ∧ 0 < (Int.toNat (Int.ofNat s18.n) - Int.toNat x22) ∧ setH (h15.row b46 (lset cs48 o47 (zeroRow #[(I 0)] ((Int.toNat (Int.ofNat s18.n) - Int.toNat x22) * 1))) z49) fun h50 => J59 h50))) ∨ ∃ b44 o45 : Nat, s18.a = some (Addr.mk b44 o45 none) ∧ ((((Int.toNat (Int.ofNat s18.n) - Int.toNat x22) = 0 ∧ (J59 h15)) ∨ ∃ (b51 o52 : Nat) (cs53 : List Value) (z54 : Nat), (some (Addr.mk b44 (if s18.c = Int.toNat x22 then o45 else o45 + Int.toNat x22 * 1) none)) = some (Addr.mk b51 o52 none) ∧ h15 b51 = some (.inl ⟨cs53, z54, false⟩) ∧ o52 + (Int.toNat (Int.ofNat s18.n) - Int.toNat x22) * 1 ≤ List.length cs53 ∧ List.all (Array.toList #[(I 0)]) (fun v => v.oneCell') = true ∧ 0 < (Int.toNat (Int.ofNat s18.n) - Int.toNat x22) ∧ setH (h15.row b51 (lset cs53 o52 (zeroRow #[(I 0)] ((Int.toNat (Int.ofNat s18.n) - Int.toNat x22) * 1))) z54) fun h55 => J59 h55)))))) [s1.v, (.func (.func f2) u3 w4), (I x9), (I (W (x9 + 1)))] h8))
theorem E_slices_DeleteFunc_Sint_int (s1 : Sl) (f2 : FuncId) (u3 w4 : Array Value) (h : Hp) (R : Value → Hp → Prop) : ABd PR Try.f65 A_slices_DeleteFunc_Sint_int #[s1.v, (.func (.func f2) u3 w4)] h R = F_slices_DeleteFunc_Sint_int s1 f2 u3 w4 h R := by kernel_rfl
theorem O_slices_DeleteFunc_Sint_int : okF PR 65 = true := by kernel_rfl
theorem B_slices_DeleteFunc_Sint_int : Try.f65.body.isSome = true := by kernel_rfl
theorem R_slices_DeleteFunc_Sint_int {s1 : Sl} {f2 : FuncId} {u3 w4 : Array Value} {h : Hp} {R : Value → Hp → Prop} (e : F_slices_DeleteFunc_Sint_int s1 f2 u3 w4 h R) : c_slices_DeleteFunc_Sint_int #[s1.v, (.func (.func f2) u3 w4)] h R :=
  acalls mixed Try.func65 B_slices_DeleteFunc_Sint_int O_slices_DeleteFunc_Sint_int A_slices_DeleteFunc_Sint_int (by kernel_rfl) ((E_slices_DeleteFunc_Sint_int s1 f2 u3 w4 h R).mpr e)

def A_slices_Clone_Sint_int : Ann := fun r => []
def F_slices_Clone_Sint_int (s1 : Sl) (h : Hp) (R : Value → Hp → Prop) : Prop :=
  bsplit (Option.isNone s1.a) (R (.slice none 0 0) h) (∀ b7 : Nat, h b7 = none → setH (h.row b7 [] 0) fun h8 => aApp h8 (some (Addr.mk b7 0 none)) 0 0 s1.a s1.n 1 8 fun a9 n10 k11 h12 => R (.slice a9 n10 k11) h12)
theorem E_slices_Clone_Sint_int (s1 : Sl) (h : Hp) (R : Value → Hp → Prop) : ABd PR Try.f66 A_slices_Clone_Sint_int #[s1.v] h R = F_slices_Clone_Sint_int s1 h R := by kernel_rfl
theorem O_slices_Clone_Sint_int : okF PR 66 = true := by kernel_rfl
theorem B_slices_Clone_Sint_int : Try.f66.body.isSome = true := by kernel_rfl
theorem R_slices_Clone_Sint_int {s1 : Sl} {h : Hp} {R : Value → Hp → Prop} (e : F_slices_Clone_Sint_int s1 h R) : c_slices_Clone_Sint_int #[s1.v] h R :=
  acalls mixed Try.func66 B_slices_Clone_Sint_int O_slices_Clone_Sint_int A_slices_Clone_Sint_int (by kernel_rfl) ((E_slices_Clone_Sint_int s1 h R).mpr e)

def A_impl_SatCore_d1 : Ann := fun r => []
def F_impl_SatCore_d1 (x1 : Int) (b2 o3 : Nat) (h : Hp) (R : Value → Hp → Prop) : Prop :=
  ∃ (x6 : Int), Hp.cell h b2 o3 = some (I x6) ∧ (R (.bool (x1 == x6)) h)
theorem E_impl_SatCore_d1 (x1 : Int) (b2 o3 : Nat) (h : Hp) (R : Value → Hp → Prop) : ABd PR Try.f67 A_impl_SatCore_d1 #[(I x1), (.pointer (some (Addr.mk b2 o3 none)))] h R = F_impl_SatCore_d1 x1 b2 o3 h R := by kernel_rfl
theorem O_impl_SatCore_d1 : okF PR 67 = true := by kernel_rfl
theorem B_impl_SatCore_d1 : Try.f67.body.isSome = true := by kernel_rfl
theorem R_impl_SatCore_d1 {x1 : Int} {b2 o3 : Nat} {h : Hp} {R : Value → Hp → Prop} (e : F_impl_SatCore_d1 x1 b2 o3 h R) : c_impl_SatCore_d1 #[(I x1), (.pointer (some (Addr.mk b2 o3 none)))] h R :=
  acalls mixed Try.func67 B_impl_SatCore_d1 O_impl_SatCore_d1 A_impl_SatCore_d1 (by kernel_rfl) ((E_impl_SatCore_d1 x1 b2 o3 h R).mpr e)

def A_impl_cloneInts : Ann := fun r => []
def F_impl_cloneInts (s1 : Sl) (h : Hp) (R : Value → Hp → Prop) : Prop :=
  aApp h none 0 0 s1.a s1.n 1 8 fun a4 n5 k6 h7 => R (.slice a4 n5 k6) h7
theorem E_impl_cloneInts (s1 : Sl) (h : Hp) (R : Value → Hp → Prop) : ABd PR Try.f68 A_impl_cloneInts #[s1.v] h R = F_impl_cloneInts s1 h R := by kernel_rfl
theorem O_impl_cloneInts : okF PR 68 = true := by kernel_rfl
theorem B_impl_cloneInts : Try.f68.body.isSome = true := by kernel_rfl
theorem R_impl_cloneInts {s1 : Sl} {h : Hp} {R : Value → Hp → Prop} (e : F_impl_cloneInts s1 h R) : c_impl_cloneInts #[s1.v] h R :=
  acalls mixed Try.func68 B_impl_cloneInts O_impl_cloneInts A_impl_cloneInts (by kernel_rfl) ((E_impl_cloneInts s1 h R).mpr e)

def A_impl_SatCore : Ann := fun r => if r = 5 then [(1, .unsafePointer), (4, .slice 0), (24, .int .i64), (25, .int .i64)] else if r = 10 then [(1, .unsafePointer), (4, .slice 0), (35, .int .i64), (36, .int .i64)] else if r = 15 then [(1, .unsafePointer), (4, .slice 0), (7, .slice 0), (8, .slice 0), (35, .int .i64), (36, .int .i64), (43, .slice 0), (44, .int .i64), (45, .int .i64)] else []
def F_impl_SatCore (x1 : Int) (s2 : Sl) (h : Hp) (R : Value → Hp → Prop) : Prop :=
  ∀ b4 : Nat, h b4 = none → setH (h.row b4 [(I x1), s2.v] 2) fun h5 => joinP (fun (c17 : Bool) (h18 : Hp) => bsplit c17 (R (.tuple #[(.slice none 0 0), (.bool false)]) h18) (∃ (s23 : Sl), Hp.cell h18 b4 1 = some s23.v ∧ (ALoop (fun vs26 h25 next27 => ∃ (b28 o29 : Nat) (s30 : Sl) (x31 : Int) (x32 : Int), vs26 = [(.pointer (some (Addr.mk b28 o29 none))), s30.v, (I x31), (I x32)] ∧ (bsplit (decide (x32 < x31)) (∀ b38 : Nat, h25 b38 = none → setH (h25.row b38 [(I x32)] 1) fun h39 => aApp h39 s30.a s30.n s30.c (some (Addr.mk b38 0 none)) 1 1 8 fun a40 n41 k42 h43 => next27 [(.pointer (some (Addr.mk b28 o29 none))), (.slice a40 n41 k42), (I x31), (I (W (x32 + 1)))] h43) (∃ (s46 : Sl), Hp.cell h25 b28 (o29 + 1) = some s46.v ∧ (ALoop (fun vs49 h48 next50 => ∃ (b51 o52 : Nat) (s53 : Sl) (x54 : Int) (x55 : Int), vs49 = [(.pointer (some (Addr.mk b51 o52 none))), s53.v, (I x54), (I x55)] ∧ (bsplit (decide (x55 < x54)) (∀ b59 : Nat, h48 b59 = none → setH (h48.row b59 [(I 0)] 1) fun h60 => ∃ (cs61 : List Value) (z62 : Nat), h60 b59 = some (.inl ⟨cs61, z62, false⟩) ∧ 0 + 1 ≤ List.length cs61 ∧ setH (h60.row b59 (lset cs61 0 [(I x55)]) z62) fun h63 => c_slices_Clone_Sint_int #[s53.v] h63 fun v65 h66 => ∃ (s67 : Sl), v65 = s67.v ∧ (c_slices_DeleteFunc_Sint_int #[s67.v, (.func (.func i_impl_SatCore_d1) #[] #[(.pointer (some (Addr.mk b59 0 none)))])] h66 fun v68 h69 => ∃ (s70 : Sl), v68 = s70.v ∧ (ALoop (fun vs75 h74 next76 => ∃ (b77 o78 : Nat) (s79 : Sl) (s80 : Sl) (s81 : Sl) (x82 : Int) (x83 : Int) (s84 : Sl) (x85 : Int) (x86 : Int), vs75 = [(.pointer (some (Addr.mk b77 o78 none))), s79.v, s80.v, s81.v, (I x82), (I x83), s84.v, (I x85), (I x86)] ∧ (bsplit (decide (x86 < x85)) (∃ b91 o92 : Nat, s84.a = some (Addr.mk b91 o92 none) ∧ (0 : Int) ≤ x86 ∧ x86 < ((s84.n : Nat) : Int) ∧ (∃ (x93 : Int), Hp.cell h74 b91 (o92 + Int.toNat x86 * 1) = some (I x93) ∧ (∃ (s95 : Sl), Hp.cell h74 b77 (o78 + 1) = some s95.v ∧ (∃ b96 o97 : Nat, s95.a = some (Addr.mk b96 o97 none) ∧ (0 : Int) ≤ x93 ∧ x93 < ((s95.n : Nat) : Int) ∧ (∃ (s98 : Sl), Hp.cell h74 b96 (o97 + Int.toNat x93 * 1) = some s98.v ∧ (∀ b99 : Nat, h74 b99 = none → setH (h74.row b99 [s98.v] 1) fun h100 => aApp h100 s81.a s81.n s81.c (some (Addr.mk b99 0 none)) 1 1 24 fun a101 n102 k103 h104 => next76 [(.pointer (some (Addr.mk b77 o78 none))), s79.v, s80.v, (.slice a101 n102 k103), (I x82), (I x83), s84.v, (I x85), (I (W (x86 + 1)))] h104)))))) (∃ (x107 : Int), Hp.cell h74 b77 o78 = some (I x107) ∧ (c_impl_least #[(I x107), s81.v] h74 fun v108 h109 => ∃ (x110 : Int), v108 = (I x110) ∧ (bsplit (decide (x110 < 0)) (next50 [(.pointer (some (Addr.mk b77 o78 none))), s80.v, (I x82), (I (W (x83 + 1)))] h109) (next50 [(.pointer (some (Addr.mk b77 o78 none))), s79.v, (I x82), (I (W (x83 + 1)))] h109)))))) [(.pointer (some (Addr.mk b51 o52 none))), s53.v, s70.v, (.slice none 0 0), (I x54), (I x55), s70.v, (I ((s70.n : Nat) : Int)), (I 0)] h69))) (c_impl_cloneInts #[s53.v] h48 fun v115 h116 => ∃ (s117 : Sl), v115 = s117.v ∧ (R (.tuple #[s117.v, (.bool true)]) h116)))) [(.pointer (some (Addr.mk b28 o29 none))), s30.v, (I ((s46.n : Nat) : Int)), (I 0)] h25)))) [(.pointer (some (Addr.mk b4 0 none))), (.slice none 0 0), (I ((s23.n : Nat) : Int)), (I 0)] h18))) fun J118 => ∃ (x7 : Int), Hp.cell h5 b4 0 = some (I x7) ∧ (∃ (s8 : Sl), Hp.cell h5 b4 1 = some s8.v ∧ (c_impl_CnfOk #[(.agg #[(I x7), s8.v])] h5 fun v9 h10 => ∃ (c11 : Bool), v9 = (.bool c11) ∧ (bsplit (!c11) (J118 true h10) (∃ (x12 : Int), Hp.cell h10 b4 0 = some (I x12) ∧ (∃ (s13 : Sl), Hp.cell h10 b4 1 = some s13.v ∧ (c_impl_least #[(I x12), s13.v] h10 fun v14 h15 => ∃ (x16 : Int), v14 = (I x16) ∧ (J118 (decide (x16 ≥ 0)) h15)))))))
theorem E_impl_SatCore (x1 : Int) (s2 : Sl) (h : Hp) (R : Value → Hp → Prop) : ABd PR Try.f23 A_impl_SatCore #[(.agg #[(I x1), s2.v])] h R = F_impl_SatCore x1 s2 h R := by kernel_rfl
theorem O_impl_SatCore : okF PR 23 = true := by kernel_rfl
theorem B_impl_SatCore : Try.f23.body.isSome = true := by kernel_rfl
theorem R_impl_SatCore {x1 : Int} {s2 : Sl} {h : Hp} {R : Value → Hp → Prop} (e : F_impl_SatCore x1 s2 h R) : c_impl_SatCore #[(.agg #[(I x1), s2.v])] h R :=
  acalls mixed Try.func23 B_impl_SatCore O_impl_SatCore A_impl_SatCore (by kernel_rfl) ((E_impl_SatCore x1 s2 h R).mpr e)

def A_spec_l10Literal : Ann := fun r => []
def F_spec_l10Literal (x1 : Int) (x2 : Int) (h : Hp) (R : Value → Hp → Prop) : Prop :=
  bsplit (x1 != 0) (c_spec_l1In #[(I x1), (I (W (0 - x2))), (I x2)] h fun v4 h5 => ∃ (c6 : Bool), v4 = (.bool c6) ∧ (R (.bool c6) h5)) (R (.bool false) h)
theorem E_spec_l10Literal (x1 : Int) (x2 : Int) (h : Hp) (R : Value → Hp → Prop) : ABd PR Try.f98 A_spec_l10Literal #[(I x1), (I x2)] h R = F_spec_l10Literal x1 x2 h R := by kernel_rfl
theorem O_spec_l10Literal : okF PR 98 = true := by kernel_rfl
theorem B_spec_l10Literal : Try.f98.body.isSome = true := by kernel_rfl
theorem R_spec_l10Literal {x1 : Int} {x2 : Int} {h : Hp} {R : Value → Hp → Prop} (e : F_spec_l10Literal x1 x2 h R) : c_spec_l10Literal #[(I x1), (I x2)] h R :=
  acalls mixed Try.func98 B_spec_l10Literal O_spec_l10Literal A_spec_l10Literal (by kernel_rfl) ((E_spec_l10Literal x1 x2 h R).mpr e)

def A_spec_l10Clause : Ann := fun r => if r = 4 then [(0, .slice 0), (1, .int .i64), (5, .int .i64)] else []
def F_spec_l10Clause (s1 : Sl) (x2 : Int) (h : Hp) (R : Value → Hp → Prop) : Prop :=
  bsplit (decide (((s1.n : Nat) : Int) > 10)) (R (.bool false) h) (ALoop (fun vs10 h9 next11 => ∃ (s12 : Sl) (x13 : Int) (x14 : Int), vs10 = [s12.v, (I x13), (I x14)] ∧ (bsplit (decide (x14 < ((s12.n : Nat) : Int))) (∃ b19 o20 : Nat, s12.a = some (Addr.mk b19 o20 none) ∧ (0 : Int) ≤ x14 ∧ x14 < ((s12.n : Nat) : Int) ∧ (∃ (x21 : Int), Hp.cell h9 b19 (o20 + Int.toNat x14 * 1) = some (I x21) ∧ (c_spec_l10Literal #[(I x21), (I x13)] h9 fun v22 h23 => ∃ (c24 : Bool), v22 = (.bool c24) ∧ (bsplit (!c24) (R (.bool false) h23) (next11 [s12.v, (I x13), (I (W (x14 + 1)))] h23))))) (R (.bool true) h9))) [s1.v, (I x2), (I 0)] h)
theorem E_spec_l10Clause (s1 : Sl) (x2 : Int) (h : Hp) (R : Value → Hp → Prop) : ABd PR Try.f71 A_spec_l10Clause #[s1.v, (I x2)] h R = F_spec_l10Clause s1 x2 h R := by kernel_rfl
theorem O_spec_l10Clause : okF PR 71 = true := by kernel_rfl
theorem B_spec_l10Clause : Try.f71.body.isSome = true := by kernel_rfl
theorem R_spec_l10Clause {s1 : Sl} {x2 : Int} {h : Hp} {R : Value → Hp → Prop} (e : F_spec_l10Clause s1 x2 h R) : c_spec_l10Clause #[s1.v, (I x2)] h R :=
  acalls mixed Try.func71 B_spec_l10Clause O_spec_l10Clause A_spec_l10Clause (by kernel_rfl) ((E_spec_l10Clause s1 x2 h R).mpr e)

def A_spec_CnfOk : Ann := fun r => if r = 4 then [(1, .unsafePointer), (3, .int .i64)] else []
def F_spec_CnfOk (x1 : Int) (s2 : Sl) (h : Hp) (R : Value → Hp → Prop) : Prop :=
  ∀ b4 : Nat, h b4 = none → setH (h.row b4 [(I x1), s2.v] 2) fun h5 => joinP (fun (c12 : Bool) (h13 : Hp) => bsplit c12 (R (.bool false) h13) (ALoop (fun vs19 h18 next20 => ∃ (b21 o22 : Nat) (x23 : Int), vs19 = [(.pointer (some (Addr.mk b21 o22 none))), (I x23)] ∧ (∃ (s25 : Sl), Hp.cell h18 b21 (o22 + 1) = some s25.v ∧ (bsplit (decide (x23 < ((s25.n : Nat) : Int))) (∃ (s29 : Sl), Hp.cell h18 b21 (o22 + 1) = some s29.v ∧ (∃ b30 o31 : Nat, s29.a = some (Addr.mk b30 o31 none) ∧ (0 : Int) ≤ x23 ∧ x23 < ((s29.n : Nat) : Int) ∧ (∃ (s32 : Sl), Hp.cell h18 b30 (o31 + Int.toNat x23 * 1) = some s32.v ∧ (∃ (x33 : Int), Hp.cell h18 b21 o22 = some (I x33) ∧ (c_spec_l10Clause #[s32.v, (I x33)] h18 fun v34 h35 => ∃ (c36 : Bool), v34 = (.bool c36) ∧ (bsplit (!c36) (R (.bool false) h35) (next20 [(.pointer (some (Addr.mk b21 o22 none))), (I (W (x23 + 1)))] h35))))))) (R (.bool true) h18)))) [(.pointer (some (Addr.mk b4 0 none))), (I 0)] h13)) fun J41 => ∃ (x7 : Int), Hp.cell h5 b4 0 = some (I x7) ∧ (c_spec_l1In #[(I x7), (I 1), (I 10)] h5 fun v8 h9 => ∃ (c10 : Bool), v8 = (.bool c10) ∧ (bsplit (!c10) (J41 true h9) (∃ (s11 : Sl), Hp.cell h9 b4 1 = some s11.v ∧ (J41 (decide (((s11.n : Nat) : Int) > 60)) h9))))
theorem E_spec_CnfOk (x1 : Int) (s2 : Sl) (h : Hp) (R : Value → Hp → Prop) : ABd PR Try.f27 A_spec_CnfOk #[(.agg #[(I x1), s2.v])] h R = F_spec_CnfOk x1 s2 h R := by kernel_rfl
theorem O_spec_CnfOk : okF PR 27 = true := by kernel_rfl
theorem B_spec_CnfOk : Try.f27.body.isSome = true := by kernel_rfl
theorem R_spec_CnfOk {x1 : Int} {s2 : Sl} {h : Hp} {R : Value → Hp → Prop} (e : F_spec_CnfOk x1 s2 h R) : c_spec_CnfOk #[(.agg #[(I x1), s2.v])] h R :=
  acalls mixed Try.func27 B_spec_CnfOk O_spec_CnfOk A_spec_CnfOk (by kernel_rfl) ((E_spec_CnfOk x1 s2 h R).mpr e)

def A_spec_l10Every : Ann := fun r => if r = 3 then [(3, .slice 0), (4, .int .i64)] else []
def F_spec_l10Every (x1 : Int) (s2 : Sl) (h : Hp) (R : Value → Hp → Prop) : Prop :=
  ∀ b4 : Nat, h b4 = none → setH (h.row b4 [(I x1), s2.v] 2) fun h5 => ∃ (s7 : Sl), Hp.cell h5 b4 1 = some s7.v ∧ ((0 : Int) ≤ ((s7.n : Nat) : Int) ∧ ((s7.n : Nat) : Int) ≤ ((s7.n : Nat) : Int) ∧ ((s7.n : Nat) : Int) * ((1 : Nat) : Int) ≤ 140737488355328 ∧ ((s7.n : Nat) : Int) ≤ 9223372036854775807 ∧ ∀ b8 : Nat, h5 b8 = none → setH (h5.row b8 (zeroRow #[(.bool false)] (Int.toNat ((s7.n : Nat) : Int) * 1)) (Int.toNat ((s7.n : Nat) : Int) * 1)) fun h9 => ALoop (fun vs13 h12 next14 => ∃ (s15 : Sl) (x16 : Int), vs13 = [s15.v, (I x16)] ∧ (bsplit (decide (x16 < ((s15.n : Nat) : Int))) (∃ b21 o22 : Nat, s15.a = some (Addr.mk b21 o22 none) ∧ (0 : Int) ≤ x16 ∧ x16 < ((s15.n : Nat) : Int) ∧ (∃ (cs23 : List Value) (z24 : Nat), h12 b21 = some (.inl ⟨cs23, z24, false⟩) ∧ (o22 + Int.toNat x16 * 1) + 1 ≤ List.length cs23 ∧ setH (h12.row b21 (lset cs23 (o22 + Int.toNat x16 * 1) [(.bool true)]) z24) fun h25 => next14 [s15.v, (I (W (x16 + 1)))] h25)) (R s15.v h12))) [(.slice (some (Addr.mk b8 0 none)) (Int.toNat ((s7.n : Nat) : Int)) (Int.toNat ((s7.n : Nat) : Int))), (I 0)] h9)
theorem E_spec_l10Every (x1 : Int) (s2 : Sl) (h : Hp) (R : Value → Hp → Prop) : ABd PR Try.f69 A_spec_l10Every #[(.agg #[(I x1), s2.v])] h R = F_spec_l10Every x1 s2 h R := by kernel_rfl
theorem O_spec_l10Every : okF PR 69 = true := by kernel_rfl
theorem B_spec_l10Every : Try.f69.body.isSome = true := by kernel_rfl
theorem R_spec_l10Every {x1 : Int} {s2 : Sl} {h : Hp} {R : Value → Hp → Prop} (e : F_spec_l10Every x1 s2 h R) : c_spec_l10Every #[(.agg #[(I x1), s2.v])] h R :=
  acalls mixed Try.func69 B_spec_l10Every O_spec_l10Every A_spec_l10Every (by kernel_rfl) ((E_spec_l10Every x1 s2 h R).mpr e)

def A_spec_l1Bit : Ann := fun r => []
def F_spec_l1Bit (x1 : Int) (x2 : Int) (h : Hp) (R : Value → Hp → Prop) : Prop :=
  if (IntKind.wrap .u64 (x2)) < 0 then False else (R (I (Int.tmod (shrW x1 (IntKind.wrap .u64 (x2))) 2)) h)
theorem E_spec_l1Bit (x1 : Int) (x2 : Int) (h : Hp) (R : Value → Hp → Prop) : ABd PR Try.f115 A_spec_l1Bit #[(I x1), (I x2)] h R = F_spec_l1Bit x1 x2 h R := by kernel_rfl
theorem O_spec_l1Bit : okF PR 115 = true := by kernel_rfl
theorem B_spec_l1Bit : Try.f115.body.isSome = true := by kernel_rfl
theorem R_spec_l1Bit {x1 : Int} {x2 : Int} {h : Hp} {R : Value → Hp → Prop} (e : F_spec_l1Bit x1 x2 h R) : c_spec_l1Bit #[(I x1), (I x2)] h R :=
  acalls mixed Try.func115 B_spec_l1Bit O_spec_l1Bit A_spec_l1Bit (by kernel_rfl) ((E_spec_l1Bit x1 x2 h R).mpr e)

def A_spec_l10True : Ann := fun r => []
def F_spec_l10True (x1 : Int) (x2 : Int) (h : Hp) (R : Value → Hp → Prop) : Prop :=
  bsplit (decide (x1 > 0)) (c_spec_l1Bit #[(I x2), (I (W (x1 - 1)))] h fun v7 h8 => ∃ (x9 : Int), v7 = (I x9) ∧ (R (.bool (x9 == 1)) h8)) (c_spec_l1Bit #[(I x2), (I (W ((W (0 - x1)) - 1)))] h fun v11 h12 => ∃ (x13 : Int), v11 = (I x13) ∧ (R (.bool (x13 == 0)) h12))
theorem E_spec_l10True (x1 : Int) (x2 : Int) (h : Hp) (R : Value → Hp → Prop) : ABd PR Try.f113 A_spec_l10True #[(I x1), (I x2)] h R = F_spec_l10True x1 x2 h R := by kernel_rfl
theorem O_spec_l10True : okF PR 113 = true := by kernel_rfl
theorem B_spec_l10True : Try.f113.body.isSome = true := by kernel_rfl
theorem R_spec_l10True {x1 : Int} {x2 : Int} {h : Hp} {R : Value → Hp → Prop} (e : F_spec_l10True x1 x2 h R) : c_spec_l10True #[(I x1), (I x2)] h R :=
  acalls mixed Try.func113 B_spec_l10True O_spec_l10True A_spec_l10True (by kernel_rfl) ((E_spec_l10True x1 x2 h R).mpr e)

def A_spec_l10Any : Ann := fun r => if r = 2 then [(0, .slice 0), (1, .int .i64), (5, .int .i64)] else []
def F_spec_l10Any (s1 : Sl) (x2 : Int) (h : Hp) (R : Value → Hp → Prop) : Prop :=
  ALoop (fun vs7 h6 next8 => ∃ (s9 : Sl) (x10 : Int) (x11 : Int), vs7 = [s9.v, (I x10), (I x11)] ∧ (bsplit (decide (x11 < ((s9.n : Nat) : Int))) (∃ b16 o17 : Nat, s9.a = some (Addr.mk b16 o17 none) ∧ (0 : Int) ≤ x11 ∧ x11 < ((s9.n : Nat) : Int) ∧ (∃ (x18 : Int), Hp.cell h6 b16 (o17 + Int.toNat x11 * 1) = some (I x18) ∧ (c_spec_l10True #[(I x18), (I x10)] h6 fun v19 h20 => ∃ (c21 : Bool), v19 = (.bool c21) ∧ (bsplit c21 (R (.bool true) h20) (next8 [s9.v, (I x10), (I (W (x11 + 1)))] h20))))) (R (.bool false) h6))) [s1.v, (I x2), (I 0)] h
theorem E_spec_l10Any (s1 : Sl) (x2 : Int) (h : Hp) (R : Value → Hp → Prop) : ABd PR Try.f106 A_spec_l10Any #[s1.v, (I x2)] h R = F_spec_l10Any s1 x2 h R := by kernel_rfl
theorem O_spec_l10Any : okF PR 106 = true := by kernel_rfl
theorem B_spec_l10Any : Try.f106.body.isSome = true := by kernel_rfl
theorem R_spec_l10Any {s1 : Sl} {x2 : Int} {h : Hp} {R : Value → Hp → Prop} (e : F_spec_l10Any s1 x2 h R) : c_spec_l10Any #[s1.v, (I x2)] h R :=
  acalls mixed Try.func106 B_spec_l10Any O_spec_l10Any A_spec_l10Any (by kernel_rfl) ((E_spec_l10Any s1 x2 h R).mpr e)

def A_spec_l10All : Ann := fun r => if r = 2 then [(1, .slice 0), (2, .int .i64), (3, .unsafePointer), (7, .int .i64)] else []
def F_spec_l10All (x1 : Int) (s2 : Sl) (s3 : Sl) (x4 : Int) (h : Hp) (R : Value → Hp → Prop) : Prop :=
  ∀ b6 : Nat, h b6 = none → setH (h.row b6 [(I x1), s2.v] 2) fun h7 => ALoop (fun vs11 h10 next12 => ∃ (s13 : Sl) (x14 : Int) (b15 o16 : Nat) (x17 : Int), vs11 = [s13.v, (I x14), (.pointer (some (Addr.mk b15 o16 none))), (I x17)] ∧ (∃ (s19 : Sl), Hp.cell h10 b15 (o16 + 1) = some s19.v ∧ (bsplit (decide (x17 < ((s19.n : Nat) : Int))) (joinP (fun (c32 : Bool) (h33 : Hp) => bsplit c32 (R (.bool false) h33) (next12 [s13.v, (I x14), (.pointer (some (Addr.mk b15 o16 none))), (I (W (x17 + 1)))] h33)) fun J37 => ∃ b22 o23 : Nat, s13.a = some (Addr.mk b22 o23 none) ∧ (0 : Int) ≤ x17 ∧ x17 < ((s13.n : Nat) : Int) ∧ (∃ (c24 : Bool), Hp.cell h10 b22 (o23 + Int.toNat x17 * 1) = some (.bool c24) ∧ (bsplit c24 (∃ (s25 : Sl), Hp.cell h10 b15 (o16 + 1) = some s25.v ∧ (∃ b26 o27 : Nat, s25.a = some (Addr.mk b26 o27 none) ∧ (0 : Int) ≤ x17 ∧ x17 < ((s25.n : Nat) : Int) ∧ (∃ (s28 : Sl), Hp.cell h10 b26 (o27 + Int.toNat x17 * 1) = some s28.v ∧ (c_spec_l10Any #[s28.v, (I x14)] h10 fun v29 h30 => ∃ (c31 : Bool), v29 = (.bool c31) ∧ (J37 (!c31) h30))))) (J37 false h10)))) (R (.bool true) h10)))) [s3.v, (I x4), (.pointer (some (Addr.mk b6 0 none))), (I 0)] h7
theorem E_spec_l10All (x1 : Int) (s2 : Sl) (s3 : Sl) (x4 : Int) (h : Hp) (R : Value → Hp → Prop) : ABd PR Try.f84 A_spec_l10All #[(.agg #[(I x1), s2.v]), s3.v, (I x4)] h R = F_spec_l10All x1 s2 s3 x4 h R := by kernel_rfl
theorem O_spec_l10All : okF PR 84 = true := by kernel_rfl
theorem B_spec_l10All : Try.f84.body.isSome = true := by kernel_rfl
theorem R_spec_l10All {x1 : Int} {s2 : Sl} {s3 : Sl} {x4 : Int} {h : Hp} {R : Value → Hp → Prop} (e : F_spec_l10All x1 s2 s3 x4 h R) : c_spec_l10All #[(.agg #[(I x1), s2.v]), s3.v, (I x4)] h R :=
  acalls mixed Try.func84 B_spec_l10All O_spec_l10All A_spec_l10All (by kernel_rfl) ((E_spec_l10All x1 s2 s3 x4 h R).mpr e)

def A_spec_l10Least : Ann := fun r => if r = 2 then [(1, .slice 0), (2, .unsafePointer), (5, .int .i64)] else []
def F_spec_l10Least (x1 : Int) (s2 : Sl) (s3 : Sl) (h : Hp) (R : Value → Hp → Prop) : Prop :=
  ∀ b5 : Nat, h b5 = none → setH (h.row b5 [(I x1), s2.v] 2) fun h6 => ALoop (fun vs10 h9 next11 => ∃ (s12 : Sl) (b13 o14 : Nat) (x15 : Int), vs10 = [s12.v, (.pointer (some (Addr.mk b13 o14 none))), (I x15)] ∧ (∃ (x17 : Int), Hp.cell h9 b13 o14 = some (I x17) ∧ (if (IntKind.wrap .u64 (x17)) < 0 then False else (bsplit (decide (x15 < (shlW 1 (IntKind.wrap .u64 (x17))))) (∃ (x21 : Int), Hp.cell h9 b13 o14 = some (I x21) ∧ (∃ (s22 : Sl), Hp.cell h9 b13 (o14 + 1) = some s22.v ∧ (c_spec_l10All #[(.agg #[(I x21), s22.v]), s12.v, (I x15)] h9 fun v23 h24 => ∃ (c25 : Bool), v23 = (.bool c25) ∧ (bsplit c25 (R (I x15) h24) (next11 [s12.v, (.pointer (some (Addr.mk b13 o14 none))), (I (W (x15 + 1)))] h24))))) (R (I (-1)) h9))))) [s3.v, (.pointer (some (Addr.mk b5 0 none))), (I 0)] h6
theorem E_spec_l10Least (x1 : Int) (s2 : Sl) (s3 : Sl) (h : Hp) (R : Value → Hp → Prop) : ABd PR Try.f70 A_spec_l10Least #[(.agg #[(I x1), s2.v]), s3.v] h R = F_spec_l10Least x1 s2 s3 h R := by kernel_rfl
theorem O_spec_l10Least : okF PR 70 = true := by kernel_rfl
theorem B_spec_l10Least : Try.f70.body.isSome = true := by kernel_rfl
theorem R_spec_l10Least {x1 : Int} {s2 : Sl} {s3 : Sl} {h : Hp} {R : Value → Hp → Prop} (e : F_spec_l10Least x1 s2 s3 h R) : c_spec_l10Least #[(.agg #[(I x1), s2.v]), s3.v] h R :=
  acalls mixed Try.func70 B_spec_l10Least O_spec_l10Least A_spec_l10Least (by kernel_rfl) ((E_spec_l10Least x1 s2 s3 h R).mpr e)

def A_spec_SatCore : Ann := fun r => if r = 8 then [(1, .unsafePointer), (4, .slice 0), (5, .slice 0), (6, .int .i64)] else []
def F_spec_SatCore (x1 : Int) (s2 : Sl) (h : Hp) (R : Value → Hp → Prop) : Prop :=
  ∀ b4 : Nat, h b4 = none → setH (h.row b4 [(I x1), s2.v] 2) fun h5 => ∃ (x7 : Int), Hp.cell h5 b4 0 = some (I x7) ∧ (∃ (s8 : Sl), Hp.cell h5 b4 1 = some s8.v ∧ (c_spec_CnfOk #[(.agg #[(I x7), s8.v])] h5 fun v9 h10 => ∃ (c11 : Bool), v9 = (.bool c11) ∧ (bsplit (!c11) (R (.tuple #[(.slice none 0 0), (.bool false)]) h10) (∃ (x15 : Int), Hp.cell h10 b4 0 = some (I x15) ∧ (∃ (s16 : Sl), Hp.cell h10 b4 1 = some s16.v ∧ (c_spec_l10Every #[(.agg #[(I x15), s16.v])] h10 fun v17 h18 => ∃ (s19 : Sl), v17 = s19.v ∧ (∃ (x21 : Int), Hp.cell h18 b4 0 = some (I x21) ∧ (∃ (s22 : Sl), Hp.cell h18 b4 1 = some s22.v ∧ (c_spec_l10Least #[(.agg #[(I x21), s22.v]), s19.v] h18 fun v23 h24 => ∃ (x25 : Int), v23 = (I x25) ∧ (bsplit (decide (x25 ≥ 0)) (R (.tuple #[(.slice none 0 0), (.bool false)]) h24) (ALoop (fun vs32 h31 next33 => ∃ (b34 o35 : Nat) (s36 : Sl) (s37 : Sl) (x38 : Int), vs32 = [(.pointer (some (Addr.mk b34 o35 none))), s36.v, s37.v, (I x38)] ∧ (bsplit (decide (x38 < ((s36.n : Nat) : Int))) (∃ b42 o43 : Nat, s36.a = some (Addr.mk b42 o43 none) ∧ (0 : Int) ≤ x38 ∧ x38 < ((s36.n : Nat) : Int) ∧ (∃ (cs44 : List Value) (z45 : Nat), h31 b42 = some (.inl ⟨cs44, z45, false⟩) ∧ (o43 + Int.toNat x38 * 1) + 1 ≤ List.length cs44 ∧ setH (h31.row b42 (lset cs44 (o43 + Int.toNat x38 * 1) [(.bool false)]) z45) fun h46 => ∃ (x48 : Int), Hp.cell h46 b34 o35 = some (I x48) ∧ (∃ (s49 : Sl), Hp.cell h46 b34 (o35 + 1) = some s49.v ∧ (c_spec_l10Least #[(.agg #[(I x48), s49.v]), s36.v] h46 fun v50 h51 => ∃ (x52 : Int), v50 = (I x52) ∧ (bsplit (decide (x52 ≥ 0)) (∃ b54 o55 : Nat, s36.a = some (Addr.mk b54 o55 none) ∧ (0 : Int) ≤ x38 ∧ x38 < ((s36.n : Nat) : Int) ∧ (∃ (cs56 : List Value) (z57 : Nat), h51 b54 = some (.inl ⟨cs56, z57, false⟩) ∧ (o55 + Int.toNat x38 * 1) + 1 ≤ List.length cs56 ∧ setH (h51.row b54 (lset cs56 (o55 + Int.toNat x38 * 1) [(.bool true)]) z57) fun h58 => ∀ b60 : Nat, h58 b60 = none → setH (h58.row b60 [(I x38)] 1) fun h61 => aApp h61 s37.a s37.n s37.c (some (Addr.mk b60 0 none)) 1 1 8 fun a62 n63 k64 h65 => next33 [(.pointer (some (Addr.mk b34 o35 none))), s36.v, (.slice a62 n63 k64), (I (W (x38 + 1)))] h65)) (next33 [(.pointer (some (Addr.mk b34 o35 none))), s36.v, s37.v, (I (W (x38 + 1)))] h51)))))) (R (.tuple #[s37.v, (.bool true)]) h31))) [(.pointer (some (Addr.mk b4 0 none))), s19.v, (.slice none 0 0), (I 0)] h24)))))))))))
theorem E_spec_SatCore (x1 : Int) (s2 : Sl) (h : Hp) (R : Value → Hp → Prop) : ABd PR Try.f24 A_spec_SatCore #[(.agg #[(I x1), s2.v])] h R = F_spec_SatCore x1 s2 h R := by kernel_rfl
theorem O_spec_SatCore : okF PR 24 = true := by kernel_rfl
theorem B_spec_SatCore : Try.f24.body.isSome = true := by kernel_rfl
theorem R_spec_SatCore {x1 : Int} {s2 : Sl} {h : Hp} {R : Value → Hp → Prop} (e : F_spec_SatCore x1 s2 h R) : c_spec_SatCore #[(.agg #[(I x1), s2.v])] h R :=
  acalls mixed Try.func24 B_spec_SatCore O_spec_SatCore A_spec_SatCore (by kernel_rfl) ((E_spec_SatCore x1 s2 h R).mpr e)

end Go.Lead
