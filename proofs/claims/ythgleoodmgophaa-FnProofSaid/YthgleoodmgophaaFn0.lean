/- The walks of the functions, part 0, written by a program: what the abstract walk of each body comes to. No statement is proved here. -/
import Derived.Test.YthgleoodmgophaaFn
set_option maxRecDepth 100000
set_option linter.unusedVariables false
namespace Go.Lead
open Go Go.Proofs

def A_spec_l1In : Ann := fun r => []
def F_spec_l1In (x1 : Int) (x2 : Int) (x3 : Int) (h : Hp) (R : Value → Hp → Prop) : Prop :=
  bsplit (decide (x1 ≥ x2)) (R (.bool (decide (x1 ≤ x3))) h) (R (.bool false) h)
theorem E_spec_l1In (x1 : Int) (x2 : Int) (x3 : Int) (h : Hp) (R : Value → Hp → Prop) : ABd PR Try.f53 A_spec_l1In #[(I x1), (I x2), (I x3)] h R = F_spec_l1In x1 x2 x3 h R := by kernel_rfl
theorem O_spec_l1In : okF PR 53 = true := by kernel_rfl
theorem B_spec_l1In : Try.f53.body.isSome = true := by kernel_rfl
theorem R_spec_l1In {x1 : Int} {x2 : Int} {x3 : Int} {h : Hp} {R : Value → Hp → Prop} (e : F_spec_l1In x1 x2 x3 h R) : c_spec_l1In #[(I x1), (I x2), (I x3)] h R :=
  acalls mixed Try.func53 B_spec_l1In O_spec_l1In A_spec_l1In (by kernel_rfl) ((E_spec_l1In x1 x2 x3 h R).mpr e)

def A_impl_in : Ann := fun r => []
def F_impl_in (x1 : Int) (x2 : Int) (x3 : Int) (h : Hp) (R : Value → Hp → Prop) : Prop :=
  bsplit (decide (x2 ≤ x1)) (R (.bool (decide (x1 ≤ x3))) h) (R (.bool false) h)
theorem E_impl_in (x1 : Int) (x2 : Int) (x3 : Int) (h : Hp) (R : Value → Hp → Prop) : ABd PR Try.f90 A_impl_in #[(I x1), (I x2), (I x3)] h R = F_impl_in x1 x2 x3 h R := by kernel_rfl
theorem O_impl_in : okF PR 90 = true := by kernel_rfl
theorem B_impl_in : Try.f90.body.isSome = true := by kernel_rfl
theorem R_impl_in {x1 : Int} {x2 : Int} {x3 : Int} {h : Hp} {R : Value → Hp → Prop} (e : F_impl_in x1 x2 x3 h R) : c_impl_in #[(I x1), (I x2), (I x3)] h R :=
  acalls mixed Try.func90 B_impl_in O_impl_in A_impl_in (by kernel_rfl) ((E_impl_in x1 x2 x3 h R).mpr e)

def A_spec_l17Open : Ann := fun r => []
def F_spec_l17Open (s1 : Sl) (h : Hp) (R : Value → Hp → Prop) : Prop :=
  bsplit (decide (((s1.n : Nat) : Int) > 2000)) ((0 : Int) ≤ (Int.ofNat 0) ∧ (Int.ofNat 0) ≤ 2000 ∧ 2000 ≤ ((s1.c : Nat) : Int) ∧ ((s1.a = none ∧ (∀ b7 : Nat, h b7 = none → setH (h.row b7 [(.slice none (Int.toNat 2000 - Int.toNat (Int.ofNat 0)) (s1.c - Int.toNat (Int.ofNat 0))), (I 0)] 2) fun h8 => R (.pointer (some (Addr.mk b7 0 none))) h8)) ∨ ∃ b4 o5 : Nat, s1.a = some (Addr.mk b4 o5 none) ∧ (∀ b10 : Nat, h b10 = none → setH (h.row b10 [(.slice (some (Addr.mk b4 (if s1.c = Int.toNat (Int.ofNat 0) then o5 else o5 + Int.toNat (Int.ofNat 0) * 1) none)) (Int.toNat 2000 - Int.toNat (Int.ofNat 0)) (s1.c - Int.toNat (Int.ofNat 0))), (I 0)] 2) fun h11 => R (.pointer (some (Addr.mk b10 0 none))) h11))) (∀ b13 : Nat, h b13 = none → setH (h.row b13 [s1.v, (I 0)] 2) fun h14 => R (.pointer (some (Addr.mk b13 0 none))) h14)
theorem E_spec_l17Open (s1 : Sl) (h : Hp) (R : Value → Hp → Prop) : ABd PR Try.f61 A_spec_l17Open #[s1.v] h R = F_spec_l17Open s1 h R := by kernel_rfl
theorem O_spec_l17Open : okF PR 61 = true := by kernel_rfl
theorem B_spec_l17Open : Try.f61.body.isSome = true := by kernel_rfl
theorem R_spec_l17Open {s1 : Sl} {h : Hp} {R : Value → Hp → Prop} (e : F_spec_l17Open s1 h R) : c_spec_l17Open #[s1.v] h R :=
  acalls mixed Try.func61 B_spec_l17Open O_spec_l17Open A_spec_l17Open (by kernel_rfl) ((E_spec_l17Open s1 h R).mpr e)

def A_spec_l17Rd_pick : Ann := fun r => []
def F_spec_l17Rd_pick (p1 : Option Addr) (x2 : Int) (h : Hp) (R : Value → Hp → Prop) : Prop :=
  ∃ b5 o6 : Nat, p1 = some (Addr.mk b5 o6 none) ∧ (∃ (x7 : Int), Hp.cell h b5 (o6 + 1) = some (I x7) ∧ (∃ b8 o9 : Nat, p1 = some (Addr.mk b8 o9 none) ∧ (∃ (cs10 : List Value) (z11 : Nat), h b8 = some (.inl ⟨cs10, z11, false⟩) ∧ (o9 + 1) + 1 ≤ List.length cs10 ∧ setH (h.row b8 (lset cs10 (o9 + 1) [(I (W (x7 + 1)))]) z11) fun h12 => joinP (fun (c17 : Bool) => bsplit c17 (R (I 0) h12) (∃ b21 o22 : Nat, p1 = some (Addr.mk b21 o22 none) ∧ (∃ (x23 : Int), Hp.cell h12 b21 (o22 + 1) = some (I x23) ∧ (∃ b25 o26 : Nat, p1 = some (Addr.mk b25 o26 none) ∧ (∃ (s27 : Sl), Hp.cell h12 b25 o26 = some s27.v ∧ (bsplit (decide ((W (x23 - 1)) < ((s27.n : Nat) : Int))) (∃ b30 o31 : Nat, p1 = some (Addr.mk b30 o31 none) ∧ (∃ (s32 : Sl), Hp.cell h12 b30 o31 = some s32.v ∧ (∃ b33 o34 : Nat, s32.a = some (Addr.mk b33 o34 none) ∧ (0 : Int) ≤ (W (x23 - 1)) ∧ (W (x23 - 1)) < ((s32.n : Nat) : Int) ∧ (∃ (x35 : Int), Hp.cell h12 b33 (o34 + Int.toNat (W (x23 - 1)) * 1) = some (.int .u8 x35) ∧ (if x2 = 0 then False else (R (I (Int.tmod (W (x35)) x2)) h12)))))) (∃ b36 o37 : Nat, p1 = some (Addr.mk b36 o37 none) ∧ (∃ b38 o39 : Nat, p1 = some (Addr.mk b38 o39 none) ∧ (∃ b40 o41 : Nat, p1 = some (Addr.mk b40 o41 none) ∧ (∃ b42 o43 : Nat, p1 = some (Addr.mk b42 o43 none) ∧ (∃ b44 o45 : Nat, p1 = some (Addr.mk b44 o45 none) ∧ (∃ (s46 : Sl), Hp.cell h12 b36 o37 = some s46.v ∧ (∃ (s47 : Sl), Hp.cell h12 b38 o39 = some s47.v ∧ (if ((s47.n : Nat) : Int) = 0 then False else (∃ b48 o49 : Nat, s46.a = some (Addr.mk b48 o49 none) ∧ (0 : Int) ≤ (Int.tmod (W (x23 - 1)) ((s47.n : Nat) : Int)) ∧ (Int.tmod (W (x23 - 1)) ((s47.n : Nat) : Int)) < ((s46.n : Nat) : Int) ∧ (∃ (x50 : Int), Hp.cell h12 b48 (o49 + Int.toNat (Int.tmod (W (x23 - 1)) ((s47.n : Nat) : Int)) * 1) = some (.int .u8 x50) ∧ (∃ (s51 : Sl), Hp.cell h12 b40 o41 = some s51.v ∧ (∃ (s52 : Sl), Hp.cell h12 b42 o43 = some s52.v ∧ (if ((s52.n : Nat) : Int) = 0 then False else (∃ b53 o54 : Nat, s51.a = some (Addr.mk b53 o54 none) ∧ (0 : Int) ≤ (Int.tmod (W ((W ((W (x23 - 1)) * 7)) + 3)) ((s52.n : Nat) : Int)) ∧ (Int.tmod (W ((W ((W (x23 - 1)) * 7)) + 3)) ((s52.n : Nat) : Int)) < ((s51.n : Nat) : Int) ∧ (∃ (x55 : Int), Hp.cell h12 b53 (o54 + Int.toNat (Int.tmod (W ((W ((W (x23 - 1)) * 7)) + 3)) ((s52.n : Nat) : Int)) * 1) = some (.int .u8 x55) ∧ (∃ (s56 : Sl), Hp.cell h12 b44 o45 = some s56.v ∧ (if ((s56.n : Nat) : Int) = 0 then False else ((h12 b44 = h12 b44 ∧ (h12 b53 = h12 b53 ∧ (h12 b42 = h12 b42 ∧ (h12 b40 = h12 b40 ∧ (h12 b44 = h12 b44 ∧ (h12 b48 = h12 b48 ∧ (h12 b38 = h12 b38 ∧ (h12 b36 = h12 b36 ∧ (if x2 = 0 then False else (R (I (Int.tmod (xorW (W ((W ((W ((W ((W (x50)) * 131)) + (W ((W (x55)) * 1117)))) + (W ((W (x23 - 1)) * 29)))) + (W ((W (Int.tdiv (W (x23 - 1)) ((s56.n : Nat) : Int))) * 53)))) (W (Int.tdiv (W ((W ((W ((W ((W (x50)) * 131)) + (W ((W (x55)) * 1117)))) + (W ((W (x23 - 1)) * 29)))) + (W ((W (Int.tdiv (W (x23 - 1)) ((s56.n : Nat) : Int))) * 53)))) 64))) x2)) h12)))))))))) ∧ (h12 b44 = h12 b44 ∧ (h12 b48 = h12 b48 ∧ (h12 b38 = h12 b38 ∧ (h12 b36 = h12 b36 ∧ (h12 b44 = h12 b44 ∧ (h12 b53 = h12 b53 ∧ (h12 b42 = h12 b42 ∧ (h12 b40 = h12 b40 ∧ (if x2 = 0 then False else (R (I (Int.tmod (xorW (W ((W ((W ((W ((W (x50)) * 131)) + (W ((W (x55)) * 1117)))) + (W ((W (x23 - 1)) * 29)))) + (W ((W (Int.tdiv (W (x23 - 1)) ((s56.n : Nat) : Int))) * 53)))) (W (Int.tdiv (W ((W ((W ((W ((W (x50)) * 131)) + (W ((W (x55)) * 1117)))) + (W ((W (x23 - 1)) * 29)))) + (W ((W (Int.tdiv (W (x23 - 1)) ((s56.n : Nat) : Int))) * 53)))) 64))) x2)) h12)))))))))))))))))))))))))))))))))) fun J61 => bsplit (decide (x2 < 1)) (J61 true) (∃ b14 o15 : Nat, p1 = some (Addr.mk b14 o15 none) ∧ (∃ (s16 : Sl), Hp.cell h12 b14 o15 = some s16.v ∧ (J61 (((s16.n : Nat) : Int) == 0)))))))
theorem E_spec_l17Rd_pick (p1 : Option Addr) (x2 : Int) (h : Hp) (R : Value → Hp → Prop) : ABd PR Try.f94 A_spec_l17Rd_pick #[(.pointer p1), (I x2)] h R = F_spec_l17Rd_pick p1 x2 h R := by kernel_rfl
theorem O_spec_l17Rd_pick : okF PR 94 = true := by kernel_rfl
theorem B_spec_l17Rd_pick : Try.f94.body.isSome = true := by kernel_rfl
theorem R_spec_l17Rd_pick {p1 : Option Addr} {x2 : Int} {h : Hp} {R : Value → Hp → Prop} (e : F_spec_l17Rd_pick p1 x2 h R) : c_spec_l17Rd_pick #[(.pointer p1), (I x2)] h R :=
  acalls mixed Try.func94 B_spec_l17Rd_pick O_spec_l17Rd_pick A_spec_l17Rd_pick (by kernel_rfl) ((E_spec_l17Rd_pick p1 x2 h R).mpr e)

def A_spec_l17Rd_cnf : Ann := fun r => if r = 10 then [(0, .pointer 0), (2, .unsafePointer), (3, .unsafePointer), (4, .int .i64), (5, .int .i64)] else if r = 17 then [(0, .pointer 0), (2, .unsafePointer), (3, .unsafePointer), (4, .int .i64), (5, .int .i64), (6, .slice 0), (7, .int .i64), (8, .int .i64)] else []
def F_spec_l17Rd_cnf (p1 : Option Addr) (h : Hp) (R : Value → Hp → Prop) : Prop :=
  ∀ b3 : Nat, h b3 = none → setH (h.row b3 [(I 0), (.slice none 0 0)] 2) fun h4 => c_spec_l17Rd_pick #[(.pointer p1), (I 5)] h4 fun v6 h7 => ∃ (x8 : Int), v6 = (I x8) ∧ (∀ b9 : Nat, h7 b9 = none → setH (h7.row b9 [(I 0), (.slice none 0 0)] 2) fun h10 => ∃ (cs11 : List Value) (z12 : Nat), h10 b9 = some (.inl ⟨cs11, z12, false⟩) ∧ 0 + 2 ≤ List.length cs11 ∧ setH (h10.row b9 (lset cs11 0 [(I (W (1 + x8))), (.slice none 0 0)]) z12) fun h13 => c_spec_l17Rd_pick #[(.pointer p1), (I 20)] h13 fun v15 h16 => ∃ (x17 : Int), v15 = (I x17) ∧ (joinP (fun  (h23 : Hp) => c_spec_l17Rd_pick #[(.pointer p1), (I 14)] h23 fun v25 h26 => ∃ (x27 : Int), v25 = (I x27) ∧ (c_spec_l17Rd_pick #[(.pointer p1), (I 3)] h26 fun v29 h30 => ∃ (x31 : Int), v29 = (I x31) ∧ (joinP (fun (x37 : Int) (h38 : Hp) => c_spec_l17Rd_pick #[(.pointer p1), (I 30)] h38 fun v40 h41 => ∃ (x42 : Int), v40 = (I x42) ∧ (joinP (fun (x48 : Int) (h49 : Hp) => ALoop (fun vs53 h52 next54 => ∃ (p55 : Option Addr) (b56 o57 : Nat) (b58 o59 : Nat) (x60 : Int) (x61 : Int), vs53 = [(.pointer p55), (.pointer (some (Addr.mk b56 o57 none))), (.pointer (some (Addr.mk b58 o59 none))), (I x60), (I x61)] ∧ (bsplit (decide (x61 < x60)) (c_spec_l17Rd_pick #[(.pointer p55), (I 3)] h52 fun v67 h68 => ∃ (x69 : Int), v67 = (I x69) ∧ (c_spec_l17Rd_pick #[(.pointer p55), (I 40)] h68 fun v71 h72 => ∃ (x73 : Int), v71 = (I x73) ∧ (joinP (fun (x79 : Int) (h80 : Hp) => ALoop (fun vs84 h83 next85 => ∃ (p86 : Option Addr) (b87 o88 : Nat) (b89 o90 : Nat) (x91 : Int) (x92 : Int) (s93 : Sl) (x94 : Int) (x95 : Int), vs84 = [(.pointer p86), (.pointer (some (Addr.mk b87 o88 none))), (.pointer (some (Addr.mk b89 o90 none))), (I x91), (I x92), s93.v, (I x94), (I x95)] ∧ (bsplit (decide (x95 < x94)) (∃ (x100 : Int), Hp.cell h83 b89 o90 = some (I x100) ∧ (c_spec_l17Rd_pick #[(.pointer p86), (I x100)] h83 fun v101 h102 => ∃ (x103 : Int), v101 = (I x103) ∧ (c_spec_l17Rd_pick #[(.pointer p86), (I 2)] h102 fun v105 h106 => ∃ (x107 : Int), v105 = (I x107) ∧ (joinP (fun (x110 : Int) => ∀ b112 : Nat, h106 b112 = none → setH (h106.row b112 [(I x110)] 1) fun h113 => aApp h113 s93.a s93.n s93.c (some (Addr.mk b112 0 none)) 1 1 8 fun a114 n115 k116 h117 => next85 [(.pointer p86), (.pointer (some (Addr.mk b87 o88 none))), (.pointer (some (Addr.mk b89 o90 none))), (I x91), (I x92), (.slice a114 n115 k116), (I x94), (I (W (x95 + 1)))] h117) fun J118 => bsplit (x107 == 0) (J118 (W (0 - (W (1 + x103))))) (J118 (W (1 + x103))))))) (∃ (s121 : Sl), Hp.cell h83 b89 (o90 + 1) = some s121.v ∧ (∀ b122 : Nat, h83 b122 = none → setH (h83.row b122 [s93.v] 1) fun h123 => aApp h123 s121.a s121.n s121.c (some (Addr.mk b122 0 none)) 1 1 24 fun a124 n125 k126 h127 => ∃ (cs128 : List Value) (z129 : Nat), h127 b89 = some (.inl ⟨cs128, z129, false⟩) ∧ (o90 + 1) + 1 ≤ List.length cs128 ∧ setH (h127.row b89 (lset cs128 (o90 + 1) [(.slice a124 n125 k126)]) z129) fun h130 => next54 [(.pointer p86), (.pointer (some (Addr.mk b87 o88 none))), (.pointer (some (Addr.mk b89 o90 none))), (I x91), (I (W (x92 + 1)))] h130)))) [(.pointer p55), (.pointer (some (Addr.mk b56 o57 none))), (.pointer (some (Addr.mk b58 o59 none))), (I x60), (I x61), (.slice none 0 0), (I x79), (I 0)] h80) fun J131 => bsplit (x73 == 0) (c_spec_l17Rd_pick #[(.pointer p55), (I 2)] h72 fun v76 h77 => ∃ (x78 : Int), v76 = (I x78) ∧ (J131 (W (x78 * 11)) h77)) (J131 (W (1 + x69)) h72)))) (c_spec_l17Rd_pick #[(.pointer p55), (I 10)] h52 fun v134 h135 => ∃ (x136 : Int), v134 = (I x136) ∧ (joinP (fun  (h184 : Hp) => ∃ (x186 : Int), Hp.cell h184 b58 o59 = some (I x186) ∧ (∃ (s187 : Sl), Hp.cell h184 b58 (o59 + 1) = some s187.v ∧ (∃ (cs188 : List Value) (z189 : Nat), h184 b56 = some (.inl ⟨cs188, z189, false⟩) ∧ o57 + 2 ≤ List.length cs188 ∧ setH (h184.row b56 (lset cs188 o57 [(I x186), s187.v]) z189) fun h190 => ∃ (x191 : Int), Hp.cell h190 b56 o57 = some (I x191) ∧ (∃ (s192 : Sl), Hp.cell h190 b56 (o57 + 1) = some s192.v ∧ (R (.agg #[(I x191), s192.v]) h190))))) fun J193 => bsplit (x136 == 0) (c_spec_l17Rd_pick #[(.pointer p55), (I 3)] h135 fun v139 h140 => ∃ (x141 : Int), v139 = (I x141) ∧ (bsplit (x141 == 0) (∀ b144 : Nat, h140 b144 = none → setH (h140.row b144 [(I 0), (I 11), (I (-1))] 3) fun h145 => c_spec_l17Rd_pick #[(.pointer p55), (I 3)] h145 fun v146 h147 => ∃ (x148 : Int), v146 = (I x148) ∧ (∃ b149 o150 : Nat, (some (Addr.mk b144 0 none)) = some (Addr.mk b149 o150 none) ∧ (0 : Int) ≤ x148 ∧ x148 < ((3 : Nat) : Int) ∧ (∃ (x151 : Int), Hp.cell h147 b149 (o150 + Int.toNat x148 * 1) = some (I x151) ∧ (∃ (cs152 : List Value) (z153 : Nat), h147 b58 = some (.inl ⟨cs152, z153, false⟩) ∧ o59 + 1 ≤ List.length cs152 ∧ setH (h147.row b58 (lset cs152 o59 [(I x151)]) z153) fun h154 => J193 h154)))) (bsplit (x141 == 1) (∃ (s157 : Sl), Hp.cell h140 b58 (o59 + 1) = some s157.v ∧ (∀ b158 : Nat, h140 b158 = none → setH (h140.row b158 [(I 0)] 1) fun h159 => ∀ b160 : Nat, h159 b160 = none → setH (h159.row b160 [(.slice (some (Addr.mk b158 0 none)) 1 1)] 1) fun h161 => aApp h161 s157.a s157.n s157.c (some (Addr.mk b160 0 none)) 1 1 24 fun a162 n163 k164 h165 => ∃ (cs166 : List Value) (z167 : Nat), h165 b58 = some (.inl ⟨cs166, z167, false⟩) ∧ (o59 + 1) + 1 ≤ List.length cs166 ∧ setH (h165.row b58 (lset cs166 (o59 + 1) [(.slice a162 n163 k164)]) z167) fun h168 => J193 h168)) (bsplit (x141 == 2) (∃ (s171 : Sl), Hp.cell h140 b58 (o59 + 1) = some s171.v ∧ (∃ (x172 : Int), Hp.cell h140 b58 o59 = some (I x172) ∧ (∀ b173 : Nat, h140 b173 = none → setH (h140.row b173 [(I (W (x172 + 1)))] 1) fun h174 => ∀ b175 : Nat, h174 b175 = none → setH (h174.row b175 [(.slice (some (Addr.mk b173 0 none)) 1 1)] 1) fun h176 => aApp h176 s171.a s171.n s171.c (some (Addr.mk b175 0 none)) 1 1 24 fun a177 n178 k179 h180 => ∃ (cs181 : List Value) (z182 : Nat), h180 b58 = some (.inl ⟨cs181, z182, false⟩) ∧ (o59 + 1) + 1 ≤ List.length cs181 ∧ setH (h180.row b58 (lset cs181 (o59 + 1) [(.slice a177 n178 k179)]) z182) fun h183 => J193 h183))) (J193 h140))))) (J193 h135))))) [(.pointer p1), (.pointer (some (Addr.mk b3 0 none))), (.pointer (some (Addr.mk b9 0 none))), (I x48), (I 0)] h49) fun J194 => bsplit (x42 == 0) (c_spec_l17Rd_pick #[(.pointer p1), (I 3)] h41 fun v45 h46 => ∃ (x47 : Int), v45 = (I x47) ∧ (J194 (W (59 + x47)) h46)) (J194 x37 h41))) fun J195 => bsplit (x31 == 0) (c_spec_l17Rd_pick #[(.pointer p1), (I 20)] h30 fun v34 h35 => ∃ (x36 : Int), v34 = (I x36) ∧ (J195 (W (12 + x36)) h35)) (J195 x27 h30)))) fun J196 => bsplit (x17 == 0) (∃ (cs20 : List Value) (z21 : Nat), h16 b9 = some (.inl ⟨cs20, z21, false⟩) ∧ 0 + 1 ≤ List.length cs20 ∧ setH (h16.row b9 (lset cs20 0 [(I 10)]) z21) fun h22 => J196 h22) (J196 h16)))
theorem E_spec_l17Rd_cnf (p1 : Option Addr) (h : Hp) (R : Value → Hp → Prop) : ABd PR Try.f62 A_spec_l17Rd_cnf #[(.pointer p1)] h R = F_spec_l17Rd_cnf p1 h R := by kernel_rfl
theorem O_spec_l17Rd_cnf : okF PR 62 = true := by kernel_rfl
theorem B_spec_l17Rd_cnf : Try.f62.body.isSome = true := by kernel_rfl
theorem R_spec_l17Rd_cnf {p1 : Option Addr} {h : Hp} {R : Value → Hp → Prop} (e : F_spec_l17Rd_cnf p1 h R) : c_spec_l17Rd_cnf #[(.pointer p1)] h R :=
  acalls mixed Try.func62 B_spec_l17Rd_cnf O_spec_l17Rd_cnf A_spec_l17Rd_cnf (by kernel_rfl) ((E_spec_l17Rd_cnf p1 h R).mpr e)

def A_slices_IndexFunc_SSint_Sint : Ann := fun r => if r = 2 then [(0, .slice 0), (1, .func #[] #[] false), (7, .int .i64), (8, .int .i64)] else []
def F_slices_IndexFunc_SSint_Sint (s1 : Sl) (f2 : FuncId) (u3 w4 : Array Value) (h : Hp) (R : Value → Hp → Prop) : Prop :=
  ALoop (fun vs9 h8 next10 => ∃ (s11 : Sl) (f12 : FuncId) (u13 w14 : Array Value) (x15 : Int) (x16 : Int), vs9 = [s11.v, (.func (.func f12) u13 w14), (I x15), (I x16)] ∧ (bsplit (decide (x16 < x15)) (∃ b22 o23 : Nat, s11.a = some (Addr.mk b22 o23 none) ∧ (0 : Int) ≤ x16 ∧ x16 < ((s11.n : Nat) : Int) ∧ (∃ (s24 : Sl), Hp.cell h8 b22 (o23 + Int.toNat x16 * 1) = some s24.v ∧ (ACalls PR f12 ((u13 ++ List.toArray [s24.v]) ++ w14) h8 fun v25 h26 => ∃ (c27 : Bool), v25 = (.bool c27) ∧ (bsplit c27 (R (I x16) h26) (next10 [s11.v, (.func (.func f12) u13 w14), (I x15), (I (W (x16 + 1)))] h26))))) (R (I (-1)) h8))) [s1.v, (.func (.func f2) u3 w4), (I ((s1.n : Nat) : Int)), (I 0)] h
theorem E_slices_IndexFunc_SSint_Sint (s1 : Sl) (f2 : FuncId) (u3 w4 : Array Value) (h : Hp) (R : Value → Hp → Prop) : ABd PR Try.f112 A_slices_IndexFunc_SSint_Sint #[s1.v, (.func (.func f2) u3 w4)] h R = F_slices_IndexFunc_SSint_Sint s1 f2 u3 w4 h R := by kernel_rfl
theorem O_slices_IndexFunc_SSint_Sint : okF PR 112 = true := by kernel_rfl
theorem B_slices_IndexFunc_SSint_Sint : Try.f112.body.isSome = true := by kernel_rfl
theorem R_slices_IndexFunc_SSint_Sint {s1 : Sl} {f2 : FuncId} {u3 w4 : Array Value} {h : Hp} {R : Value → Hp → Prop} (e : F_slices_IndexFunc_SSint_Sint s1 f2 u3 w4 h R) : c_slices_IndexFunc_SSint_Sint #[s1.v, (.func (.func f2) u3 w4)] h R :=
  acalls mixed Try.func112 B_slices_IndexFunc_SSint_Sint O_slices_IndexFunc_SSint_Sint A_slices_IndexFunc_SSint_Sint (by kernel_rfl) ((E_slices_IndexFunc_SSint_Sint s1 f2 u3 w4 h R).mpr e)

def A_slices_ContainsFunc_SSint_Sint : Ann := fun r => []
def F_slices_ContainsFunc_SSint_Sint (s1 : Sl) (f2 : FuncId) (u3 w4 : Array Value) (h : Hp) (R : Value → Hp → Prop) : Prop :=
  c_slices_IndexFunc_SSint_Sint #[s1.v, (.func (.func f2) u3 w4)] h fun v7 h8 => ∃ (x9 : Int), v7 = (I x9) ∧ (R (.bool (decide (x9 ≥ 0))) h8)
theorem E_slices_ContainsFunc_SSint_Sint (s1 : Sl) (f2 : FuncId) (u3 w4 : Array Value) (h : Hp) (R : Value → Hp → Prop) : ABd PR Try.f95 A_slices_ContainsFunc_SSint_Sint #[s1.v, (.func (.func f2) u3 w4)] h R = F_slices_ContainsFunc_SSint_Sint s1 f2 u3 w4 h R := by kernel_rfl
theorem O_slices_ContainsFunc_SSint_Sint : okF PR 95 = true := by kernel_rfl
theorem B_slices_ContainsFunc_SSint_Sint : Try.f95.body.isSome = true := by kernel_rfl
theorem R_slices_ContainsFunc_SSint_Sint {s1 : Sl} {f2 : FuncId} {u3 w4 : Array Value} {h : Hp} {R : Value → Hp → Prop} (e : F_slices_ContainsFunc_SSint_Sint s1 f2 u3 w4 h R) : c_slices_ContainsFunc_SSint_Sint #[s1.v, (.func (.func f2) u3 w4)] h R :=
  acalls mixed Try.func95 B_slices_ContainsFunc_SSint_Sint O_slices_ContainsFunc_SSint_Sint A_slices_ContainsFunc_SSint_Sint (by kernel_rfl) ((E_slices_ContainsFunc_SSint_Sint s1 f2 u3 w4 h R).mpr e)

def A_slices_IndexFunc_Sint_int : Ann := fun r => if r = 2 then [(0, .slice 0), (1, .func #[] #[] false), (7, .int .i64), (8, .int .i64)] else []
def F_slices_IndexFunc_Sint_int (s1 : Sl) (f2 : FuncId) (u3 w4 : Array Value) (h : Hp) (R : Value → Hp → Prop) : Prop :=
  ALoop (fun vs9 h8 next10 => ∃ (s11 : Sl) (f12 : FuncId) (u13 w14 : Array Value) (x15 : Int) (x16 : Int), vs9 = [s11.v, (.func (.func f12) u13 w14), (I x15), (I x16)] ∧ (bsplit (decide (x16 < x15)) (∃ b22 o23 : Nat, s11.a = some (Addr.mk b22 o23 none) ∧ (0 : Int) ≤ x16 ∧ x16 < ((s11.n : Nat) : Int) ∧ (∃ (x24 : Int), Hp.cell h8 b22 (o23 + Int.toNat x16 * 1) = some (I x24) ∧ (ACalls PR f12 ((u13 ++ List.toArray [(I x24)]) ++ w14) h8 fun v25 h26 => ∃ (c27 : Bool), v25 = (.bool c27) ∧ (bsplit c27 (R (I x16) h26) (next10 [s11.v, (.func (.func f12) u13 w14), (I x15), (I (W (x16 + 1)))] h26))))) (R (I (-1)) h8))) [s1.v, (.func (.func f2) u3 w4), (I ((s1.n : Nat) : Int)), (I 0)] h
theorem E_slices_IndexFunc_Sint_int (s1 : Sl) (f2 : FuncId) (u3 w4 : Array Value) (h : Hp) (R : Value → Hp → Prop) : ABd PR Try.f97 A_slices_IndexFunc_Sint_int #[s1.v, (.func (.func f2) u3 w4)] h R = F_slices_IndexFunc_Sint_int s1 f2 u3 w4 h R := by kernel_rfl
theorem O_slices_IndexFunc_Sint_int : okF PR 97 = true := by kernel_rfl
theorem B_slices_IndexFunc_Sint_int : Try.f97.body.isSome = true := by kernel_rfl
theorem R_slices_IndexFunc_Sint_int {s1 : Sl} {f2 : FuncId} {u3 w4 : Array Value} {h : Hp} {R : Value → Hp → Prop} (e : F_slices_IndexFunc_Sint_int s1 f2 u3 w4 h R) : c_slices_IndexFunc_Sint_int #[s1.v, (.func (.func f2) u3 w4)] h R :=
  acalls mixed Try.func97 B_slices_IndexFunc_Sint_int O_slices_IndexFunc_Sint_int A_slices_IndexFunc_Sint_int (by kernel_rfl) ((E_slices_IndexFunc_Sint_int s1 f2 u3 w4 h R).mpr e)

def A_slices_ContainsFunc_Sint_int : Ann := fun r => []
def F_slices_ContainsFunc_Sint_int (s1 : Sl) (f2 : FuncId) (u3 w4 : Array Value) (h : Hp) (R : Value → Hp → Prop) : Prop :=
  c_slices_IndexFunc_Sint_int #[s1.v, (.func (.func f2) u3 w4)] h fun v7 h8 => ∃ (x9 : Int), v7 = (I x9) ∧ (R (.bool (decide (x9 ≥ 0))) h8)
theorem E_slices_ContainsFunc_Sint_int (s1 : Sl) (f2 : FuncId) (u3 w4 : Array Value) (h : Hp) (R : Value → Hp → Prop) : ABd PR Try.f100 A_slices_ContainsFunc_Sint_int #[s1.v, (.func (.func f2) u3 w4)] h R = F_slices_ContainsFunc_Sint_int s1 f2 u3 w4 h R := by kernel_rfl
theorem O_slices_ContainsFunc_Sint_int : okF PR 100 = true := by kernel_rfl
theorem B_slices_ContainsFunc_Sint_int : Try.f100.body.isSome = true := by kernel_rfl
theorem R_slices_ContainsFunc_Sint_int {s1 : Sl} {f2 : FuncId} {u3 w4 : Array Value} {h : Hp} {R : Value → Hp → Prop} (e : F_slices_ContainsFunc_Sint_int s1 f2 u3 w4 h R) : c_slices_ContainsFunc_Sint_int #[s1.v, (.func (.func f2) u3 w4)] h R :=
  acalls mixed Try.func100 B_slices_ContainsFunc_Sint_int O_slices_ContainsFunc_Sint_int A_slices_ContainsFunc_Sint_int (by kernel_rfl) ((E_slices_ContainsFunc_Sint_int s1 f2 u3 w4 h R).mpr e)

def A_impl_clauseOk_d1 : Ann := fun r => []
def F_impl_clauseOk_d1 (x1 : Int) (b2 o3 : Nat) (h : Hp) (R : Value → Hp → Prop) : Prop :=
  bsplit (x1 == 0) (R (.bool true) h) (∃ (x5 : Int), Hp.cell h b2 o3 = some (I x5) ∧ (∃ (x6 : Int), Hp.cell h b2 o3 = some (I x6) ∧ (c_impl_in #[(I x1), (I (W (0 - x5))), (I x6)] h fun v7 h8 => ∃ (c9 : Bool), v7 = (.bool c9) ∧ (R (.bool (!c9)) h8))))
theorem E_impl_clauseOk_d1 (x1 : Int) (b2 o3 : Nat) (h : Hp) (R : Value → Hp → Prop) : ABd PR Try.f101 A_impl_clauseOk_d1 #[(I x1), (.pointer (some (Addr.mk b2 o3 none)))] h R = F_impl_clauseOk_d1 x1 b2 o3 h R := by kernel_rfl
theorem O_impl_clauseOk_d1 : okF PR 101 = true := by kernel_rfl
theorem B_impl_clauseOk_d1 : Try.f101.body.isSome = true := by kernel_rfl
theorem R_impl_clauseOk_d1 {x1 : Int} {b2 o3 : Nat} {h : Hp} {R : Value → Hp → Prop} (e : F_impl_clauseOk_d1 x1 b2 o3 h R) : c_impl_clauseOk_d1 #[(I x1), (.pointer (some (Addr.mk b2 o3 none)))] h R :=
  acalls mixed Try.func101 B_impl_clauseOk_d1 O_impl_clauseOk_d1 A_impl_clauseOk_d1 (by kernel_rfl) ((E_impl_clauseOk_d1 x1 b2 o3 h R).mpr e)

def A_impl_clauseOk : Ann := fun r => []
def F_impl_clauseOk (x1 : Int) (s2 : Sl) (h : Hp) (R : Value → Hp → Prop) : Prop :=
  ∀ b4 : Nat, h b4 = none → setH (h.row b4 [(I x1)] 1) fun h5 => bsplit (decide (((s2.n : Nat) : Int) ≤ 10)) (c_slices_ContainsFunc_Sint_int #[s2.v, (.func (.func i_impl_clauseOk_d1) #[] #[(.pointer (some (Addr.mk b4 0 none)))])] h5 fun v6 h7 => ∃ (c8 : Bool), v6 = (.bool c8) ∧ (R (.bool (!c8)) h7)) (R (.bool false) h5)
theorem E_impl_clauseOk (x1 : Int) (s2 : Sl) (h : Hp) (R : Value → Hp → Prop) : ABd PR Try.f74 A_impl_clauseOk #[(I x1), s2.v] h R = F_impl_clauseOk x1 s2 h R := by kernel_rfl
theorem O_impl_clauseOk : okF PR 74 = true := by kernel_rfl
theorem B_impl_clauseOk : Try.f74.body.isSome = true := by kernel_rfl
theorem R_impl_clauseOk {x1 : Int} {s2 : Sl} {h : Hp} {R : Value → Hp → Prop} (e : F_impl_clauseOk x1 s2 h R) : c_impl_clauseOk #[(I x1), s2.v] h R :=
  acalls mixed Try.func74 B_impl_clauseOk O_impl_clauseOk A_impl_clauseOk (by kernel_rfl) ((E_impl_clauseOk x1 s2 h R).mpr e)

def A_impl_CnfOk_d1 : Ann := fun r => []
def F_impl_CnfOk_d1 (s1 : Sl) (b2 o3 : Nat) (h : Hp) (R : Value → Hp → Prop) : Prop :=
  ∃ (x6 : Int), Hp.cell h b2 o3 = some (I x6) ∧ (c_impl_clauseOk #[(I x6), s1.v] h fun v7 h8 => ∃ (c9 : Bool), v7 = (.bool c9) ∧ (R (.bool (!c9)) h8))
theorem E_impl_CnfOk_d1 (s1 : Sl) (b2 o3 : Nat) (h : Hp) (R : Value → Hp → Prop) : ABd PR Try.f96 A_impl_CnfOk_d1 #[s1.v, (.pointer (some (Addr.mk b2 o3 none)))] h R = F_impl_CnfOk_d1 s1 b2 o3 h R := by kernel_rfl
theorem O_impl_CnfOk_d1 : okF PR 96 = true := by kernel_rfl
theorem B_impl_CnfOk_d1 : Try.f96.body.isSome = true := by kernel_rfl
theorem R_impl_CnfOk_d1 {s1 : Sl} {b2 o3 : Nat} {h : Hp} {R : Value → Hp → Prop} (e : F_impl_CnfOk_d1 s1 b2 o3 h R) : c_impl_CnfOk_d1 #[s1.v, (.pointer (some (Addr.mk b2 o3 none)))] h R :=
  acalls mixed Try.func96 B_impl_CnfOk_d1 O_impl_CnfOk_d1 A_impl_CnfOk_d1 (by kernel_rfl) ((E_impl_CnfOk_d1 s1 b2 o3 h R).mpr e)

def A_impl_CnfOk : Ann := fun r => []
def F_impl_CnfOk (x1 : Int) (s2 : Sl) (h : Hp) (R : Value → Hp → Prop) : Prop :=
  ∀ b4 : Nat, h b4 = none → setH (h.row b4 [(I x1), s2.v] 2) fun h5 => ∃ (x6 : Int), Hp.cell h5 b4 0 = some (I x6) ∧ (c_impl_in #[(I x6), (I 1), (I 10)] h5 fun v7 h8 => ∃ (c9 : Bool), v7 = (.bool c9) ∧ (bsplit c9 (∃ (s10 : Sl), Hp.cell h8 b4 1 = some s10.v ∧ (bsplit (decide (((s10.n : Nat) : Int) ≤ 60)) (∃ (s11 : Sl), Hp.cell h8 b4 1 = some s11.v ∧ (c_slices_ContainsFunc_SSint_Sint #[s11.v, (.func (.func i_impl_CnfOk_d1) #[] #[(.pointer (some (Addr.mk b4 0 none)))])] h8 fun v12 h13 => ∃ (c14 : Bool), v12 = (.bool c14) ∧ (R (.bool (!c14)) h13))) (R (.bool false) h8))) (R (.bool false) h8)))
theorem E_impl_CnfOk (x1 : Int) (s2 : Sl) (h : Hp) (R : Value → Hp → Prop) : ABd PR Try.f63 A_impl_CnfOk #[(.agg #[(I x1), s2.v])] h R = F_impl_CnfOk x1 s2 h R := by kernel_rfl
theorem O_impl_CnfOk : okF PR 63 = true := by kernel_rfl
theorem B_impl_CnfOk : Try.f63.body.isSome = true := by kernel_rfl
theorem R_impl_CnfOk {x1 : Int} {s2 : Sl} {h : Hp} {R : Value → Hp → Prop} (e : F_impl_CnfOk x1 s2 h R) : c_impl_CnfOk #[(.agg #[(I x1), s2.v])] h R :=
  acalls mixed Try.func63 B_impl_CnfOk O_impl_CnfOk A_impl_CnfOk (by kernel_rfl) ((E_impl_CnfOk x1 s2 h R).mpr e)

def A_impl_literal : Ann := fun r => []
def F_impl_literal (x1 : Int) (x2 : Int) (h : Hp) (R : Value → Hp → Prop) : Prop :=
  bsplit (decide (x1 < 0)) (if (W ((W (0 - x1)) - 1)) < 0 then False else (R (.bool ((andW (shrW x2 (W ((W (0 - x1)) - 1))) 1) == 0)) h)) (if (W (x1 - 1)) < 0 then False else (R (.bool ((andW (shrW x2 (W (x1 - 1))) 1) == 1)) h))
theorem E_impl_literal (x1 : Int) (x2 : Int) (h : Hp) (R : Value → Hp → Prop) : ABd PR Try.f110 A_impl_literal #[(I x1), (I x2)] h R = F_impl_literal x1 x2 h R := by kernel_rfl
theorem O_impl_literal : okF PR 110 = true := by kernel_rfl
theorem B_impl_literal : Try.f110.body.isSome = true := by kernel_rfl
theorem R_impl_literal {x1 : Int} {x2 : Int} {h : Hp} {R : Value → Hp → Prop} (e : F_impl_literal x1 x2 h R) : c_impl_literal #[(I x1), (I x2)] h R :=
  acalls mixed Try.func110 B_impl_literal O_impl_literal A_impl_literal (by kernel_rfl) ((E_impl_literal x1 x2 h R).mpr e)

def A_impl_clausesHold_d1_d1 : Ann := fun r => []
def F_impl_clausesHold_d1_d1 (x1 : Int) (b2 o3 : Nat) (h : Hp) (R : Value → Hp → Prop) : Prop :=
  ∃ (x6 : Int), Hp.cell h b2 o3 = some (I x6) ∧ (c_impl_literal #[(I x1), (I x6)] h fun v7 h8 => ∃ (c9 : Bool), v7 = (.bool c9) ∧ (R (.bool c9) h8))
theorem E_impl_clausesHold_d1_d1 (x1 : Int) (b2 o3 : Nat) (h : Hp) (R : Value → Hp → Prop) : ABd PR Try.f109 A_impl_clausesHold_d1_d1 #[(I x1), (.pointer (some (Addr.mk b2 o3 none)))] h R = F_impl_clausesHold_d1_d1 x1 b2 o3 h R := by kernel_rfl
theorem O_impl_clausesHold_d1_d1 : okF PR 109 = true := by kernel_rfl
theorem B_impl_clausesHold_d1_d1 : Try.f109.body.isSome = true := by kernel_rfl
theorem R_impl_clausesHold_d1_d1 {x1 : Int} {b2 o3 : Nat} {h : Hp} {R : Value → Hp → Prop} (e : F_impl_clausesHold_d1_d1 x1 b2 o3 h R) : c_impl_clausesHold_d1_d1 #[(I x1), (.pointer (some (Addr.mk b2 o3 none)))] h R :=
  acalls mixed Try.func109 B_impl_clausesHold_d1_d1 O_impl_clausesHold_d1_d1 A_impl_clausesHold_d1_d1 (by kernel_rfl) ((E_impl_clausesHold_d1_d1 x1 b2 o3 h R).mpr e)

def A_impl_clausesHold_d1 : Ann := fun r => []
def F_impl_clausesHold_d1 (s1 : Sl) (b2 o3 : Nat) (h : Hp) (R : Value → Hp → Prop) : Prop :=
  c_slices_ContainsFunc_Sint_int #[s1.v, (.func (.func i_impl_clausesHold_d1_d1) #[] #[(.pointer (some (Addr.mk b2 o3 none)))])] h fun v6 h7 => ∃ (c8 : Bool), v6 = (.bool c8) ∧ (R (.bool (!c8)) h7)
theorem E_impl_clausesHold_d1 (s1 : Sl) (b2 o3 : Nat) (h : Hp) (R : Value → Hp → Prop) : ABd PR Try.f108 A_impl_clausesHold_d1 #[s1.v, (.pointer (some (Addr.mk b2 o3 none)))] h R = F_impl_clausesHold_d1 s1 b2 o3 h R := by kernel_rfl
theorem O_impl_clausesHold_d1 : okF PR 108 = true := by kernel_rfl
theorem B_impl_clausesHold_d1 : Try.f108.body.isSome = true := by kernel_rfl
theorem R_impl_clausesHold_d1 {s1 : Sl} {b2 o3 : Nat} {h : Hp} {R : Value → Hp → Prop} (e : F_impl_clausesHold_d1 s1 b2 o3 h R) : c_impl_clausesHold_d1 #[s1.v, (.pointer (some (Addr.mk b2 o3 none)))] h R :=
  acalls mixed Try.func108 B_impl_clausesHold_d1 O_impl_clausesHold_d1 A_impl_clausesHold_d1 (by kernel_rfl) ((E_impl_clausesHold_d1 s1 b2 o3 h R).mpr e)

def A_impl_clausesHold : Ann := fun r => []
def F_impl_clausesHold (s1 : Sl) (x2 : Int) (h : Hp) (R : Value → Hp → Prop) : Prop :=
  ∀ b4 : Nat, h b4 = none → setH (h.row b4 [(I x2)] 1) fun h5 => c_slices_ContainsFunc_SSint_Sint #[s1.v, (.func (.func i_impl_clausesHold_d1) #[] #[(.pointer (some (Addr.mk b4 0 none)))])] h5 fun v7 h8 => ∃ (c9 : Bool), v7 = (.bool c9) ∧ (R (.bool (!c9)) h8)
theorem E_impl_clausesHold (s1 : Sl) (x2 : Int) (h : Hp) (R : Value → Hp → Prop) : ABd PR Try.f87 A_impl_clausesHold #[s1.v, (I x2)] h R = F_impl_clausesHold s1 x2 h R := by kernel_rfl
theorem O_impl_clausesHold : okF PR 87 = true := by kernel_rfl
theorem B_impl_clausesHold : Try.f87.body.isSome = true := by kernel_rfl
theorem R_impl_clausesHold {s1 : Sl} {x2 : Int} {h : Hp} {R : Value → Hp → Prop} (e : F_impl_clausesHold s1 x2 h R) : c_impl_clausesHold #[s1.v, (I x2)] h R :=
  acalls mixed Try.func87 B_impl_clausesHold O_impl_clausesHold A_impl_clausesHold (by kernel_rfl) ((E_impl_clausesHold s1 x2 h R).mpr e)

def A_impl_least : Ann := fun r => if r = 2 then [(1, .slice 0), (7, .int .i64), (8, .int .i64)] else []
def F_impl_least (x1 : Int) (s2 : Sl) (h : Hp) (R : Value → Hp → Prop) : Prop :=
  if x1 < 0 then False else (ALoop (fun vs7 h6 next8 => ∃ (s9 : Sl) (x10 : Int) (x11 : Int), vs7 = [s9.v, (I x10), (I x11)] ∧ (bsplit (decide (x11 < x10)) (c_impl_clausesHold #[s9.v, (I x11)] h6 fun v17 h18 => ∃ (c19 : Bool), v17 = (.bool c19) ∧ (bsplit c19 (R (I x11) h18) (next8 [s9.v, (I x10), (I (W (x11 + 1)))] h18))) (R (I (-1)) h6))) [s2.v, (I (shlW 1 x1)), (I 0)] h)
theorem E_impl_least (x1 : Int) (s2 : Sl) (h : Hp) (R : Value → Hp → Prop) : ABd PR Try.f64 A_impl_least #[(I x1), s2.v] h R = F_impl_least x1 s2 h R := by kernel_rfl
theorem O_impl_least : okF PR 64 = true := by kernel_rfl
theorem B_impl_least : Try.f64.body.isSome = true := by kernel_rfl
theorem R_impl_least {x1 : Int} {s2 : Sl} {h : Hp} {R : Value → Hp → Prop} (e : F_impl_least x1 s2 h R) : c_impl_least #[(I x1), s2.v] h R :=
  acalls mixed Try.func64 B_impl_least O_impl_least A_impl_least (by kernel_rfl) ((E_impl_least x1 s2 h R).mpr e)

def A_impl_cloneInts : Ann := fun r => []
def F_impl_cloneInts (s1 : Sl) (h : Hp) (R : Value → Hp → Prop) : Prop :=
  aApp h none 0 0 s1.a s1.n 1 8 fun a4 n5 k6 h7 => R (.slice a4 n5 k6) h7
theorem E_impl_cloneInts (s1 : Sl) (h : Hp) (R : Value → Hp → Prop) : ABd PR Try.f68 A_impl_cloneInts #[s1.v] h R = F_impl_cloneInts s1 h R := by kernel_rfl
theorem O_impl_cloneInts : okF PR 68 = true := by kernel_rfl
theorem B_impl_cloneInts : Try.f68.body.isSome = true := by kernel_rfl
theorem R_impl_cloneInts {s1 : Sl} {h : Hp} {R : Value → Hp → Prop} (e : F_impl_cloneInts s1 h R) : c_impl_cloneInts #[s1.v] h R :=
  acalls mixed Try.func68 B_impl_cloneInts O_impl_cloneInts A_impl_cloneInts (by kernel_rfl) ((E_impl_cloneInts s1 h R).mpr e)

def A_spec_l10Literal : Ann := fun r => []
def F_spec_l10Literal (x1 : Int) (x2 : Int) (h : Hp) (R : Value → Hp → Prop) : Prop :=
  bsplit (x1 != 0) (c_spec_l1In #[(I x1), (I (W (0 - x2))), (I x2)] h fun v4 h5 => ∃ (c6 : Bool), v4 = (.bool c6) ∧ (R (.bool c6) h5)) (R (.bool false) h)
theorem E_spec_l10Literal (x1 : Int) (x2 : Int) (h : Hp) (R : Value → Hp → Prop) : ABd PR Try.f98 A_spec_l10Literal #[(I x1), (I x2)] h R = F_spec_l10Literal x1 x2 h R := by kernel_rfl
theorem O_spec_l10Literal : okF PR 98 = true := by kernel_rfl
theorem B_spec_l10Literal : Try.f98.body.isSome = true := by kernel_rfl
theorem R_spec_l10Literal {x1 : Int} {x2 : Int} {h : Hp} {R : Value → Hp → Prop} (e : F_spec_l10Literal x1 x2 h R) : c_spec_l10Literal #[(I x1), (I x2)] h R :=
  acalls mixed Try.func98 B_spec_l10Literal O_spec_l10Literal A_spec_l10Literal (by kernel_rfl) ((E_spec_l10Literal x1 x2 h R).mpr e)

def A_spec_l10Clause : Ann := fun r => if r = 4 then [(0, .slice 0), (1, .int .i64), (5, .int .i64)] else []
def F_spec_l10Clause (s1 : Sl) (x2 : Int) (h : Hp) (R : Value → Hp → Prop) : Prop :=
  bsplit (decide (((s1.n : Nat) : Int) > 10)) (R (.bool false) h) (ALoop (fun vs10 h9 next11 => ∃ (s12 : Sl) (x13 : Int) (x14 : Int), vs10 = [s12.v, (I x13), (I x14)] ∧ (bsplit (decide (x14 < ((s12.n : Nat) : Int))) (∃ b19 o20 : Nat, s12.a = some (Addr.mk b19 o20 none) ∧ (0 : Int) ≤ x14 ∧ x14 < ((s12.n : Nat) : Int) ∧ (∃ (x21 : Int), Hp.cell h9 b19 (o20 + Int.toNat x14 * 1) = some (I x21) ∧ (c_spec_l10Literal #[(I x21), (I x13)] h9 fun v22 h23 => ∃ (c24 : Bool), v22 = (.bool c24) ∧ (bsplit (!c24) (R (.bool false) h23) (next11 [s12.v, (I x13), (I (W (x14 + 1)))] h23))))) (R (.bool true) h9))) [s1.v, (I x2), (I 0)] h)
theorem E_spec_l10Clause (s1 : Sl) (x2 : Int) (h : Hp) (R : Value → Hp → Prop) : ABd PR Try.f71 A_spec_l10Clause #[s1.v, (I x2)] h R = F_spec_l10Clause s1 x2 h R := by kernel_rfl
theorem O_spec_l10Clause : okF PR 71 = true := by kernel_rfl
theorem B_spec_l10Clause : Try.f71.body.isSome = true := by kernel_rfl
theorem R_spec_l10Clause {s1 : Sl} {x2 : Int} {h : Hp} {R : Value → Hp → Prop} (e : F_spec_l10Clause s1 x2 h R) : c_spec_l10Clause #[s1.v, (I x2)] h R :=
  acalls mixed Try.func71 B_spec_l10Clause O_spec_l10Clause A_spec_l10Clause (by kernel_rfl) ((E_spec_l10Clause s1 x2 h R).mpr e)

def A_spec_CnfOk : Ann := fun r => if r = 4 then [(1, .unsafePointer), (3, .int .i64)] else []
def F_spec_CnfOk (x1 : Int) (s2 : Sl) (h : Hp) (R : Value → Hp → Prop) : Prop :=
  ∀ b4 : Nat, h b4 = none → setH (h.row b4 [(I x1), s2.v] 2) fun h5 => joinP (fun (c12 : Bool) (h13 : Hp) => bsplit c12 (R (.bool false) h13) (ALoop (fun vs19 h18 next20 => ∃ (b21 o22 : Nat) (x23 : Int), vs19 = [(.pointer (some (Addr.mk b21 o22 none))), (I x23)] ∧ (∃ (s25 : Sl), Hp.cell h18 b21 (o22 + 1) = some s25.v ∧ (bsplit (decide (x23 < ((s25.n : Nat) : Int))) (∃ (s29 : Sl), Hp.cell h18 b21 (o22 + 1) = some s29.v ∧ (∃ b30 o31 : Nat, s29.a = some (Addr.mk b30 o31 none) ∧ (0 : Int) ≤ x23 ∧ x23 < ((s29.n : Nat) : Int) ∧ (∃ (s32 : Sl), Hp.cell h18 b30 (o31 + Int.toNat x23 * 1) = some s32.v ∧ (∃ (x33 : Int), Hp.cell h18 b21 o22 = some (I x33) ∧ (c_spec_l10Clause #[s32.v, (I x33)] h18 fun v34 h35 => ∃ (c36 : Bool), v34 = (.bool c36) ∧ (bsplit (!c36) (R (.bool false) h35) (next20 [(.pointer (some (Addr.mk b21 o22 none))), (I (W (x23 + 1)))] h35))))))) (R (.bool true) h18)))) [(.pointer (some (Addr.mk b4 0 none))), (I 0)] h13)) fun J41 => ∃ (x7 : Int), Hp.cell h5 b4 0 = some (I x7) ∧ (c_spec_l1In #[(I x7), (I 1), (I 10)] h5 fun v8 h9 => ∃ (c10 : Bool), v8 = (.bool c10) ∧ (bsplit (!c10) (J41 true h9) (∃ (s11 : Sl), Hp.cell h9 b4 1 = some s11.v ∧ (J41 (decide (((s11.n : Nat) : Int) > 60)) h9))))
theorem E_spec_CnfOk (x1 : Int) (s2 : Sl) (h : Hp) (R : Value → Hp → Prop) : ABd PR Try.f27 A_spec_CnfOk #[(.agg #[(I x1), s2.v])] h R = F_spec_CnfOk x1 s2 h R := by kernel_rfl
theorem O_spec_CnfOk : okF PR 27 = true := by kernel_rfl
theorem B_spec_CnfOk : Try.f27.body.isSome = true := by kernel_rfl
theorem R_spec_CnfOk {x1 : Int} {s2 : Sl} {h : Hp} {R : Value → Hp → Prop} (e : F_spec_CnfOk x1 s2 h R) : c_spec_CnfOk #[(.agg #[(I x1), s2.v])] h R :=
  acalls mixed Try.func27 B_spec_CnfOk O_spec_CnfOk A_spec_CnfOk (by kernel_rfl) ((E_spec_CnfOk x1 s2 h R).mpr e)

def A_spec_l10Every : Ann := fun r => if r = 3 then [(3, .slice 0), (4, .int .i64)] else []
def F_spec_l10Every (x1 : Int) (s2 : Sl) (h : Hp) (R : Value → Hp → Prop) : Prop :=
  ∀ b4 : Nat, h b4 = none → setH (h.row b4 [(I x1), s2.v] 2) fun h5 => ∃ (s7 : Sl), Hp.cell h5 b4 1 = some s7.v ∧ ((0 : Int) ≤ ((s7.n : Nat) : Int) ∧ ((s7.n : Nat) : Int) ≤ ((s7.n : Nat) : Int) ∧ ((s7.n : Nat) : Int) * ((1 : Nat) : Int) ≤ 140737488355328 ∧ ((s7.n : Nat) : Int) ≤ 9223372036854775807 ∧ ∀ b8 : Nat, h5 b8 = none → setH (h5.row b8 (zeroRow #[(.bool false)] (Int.toNat ((s7.n : Nat) : Int) * 1)) (Int.toNat ((s7.n : Nat) : Int) * 1)) fun h9 => ALoop (fun vs13 h12 next14 => ∃ (s15 : Sl) (x16 : Int), vs13 = [s15.v, (I x16)] ∧ (bsplit (decide (x16 < ((s15.n : Nat) : Int))) (∃ b21 o22 : Nat, s15.a = some (Addr.mk b21 o22 none) ∧ (0 : Int) ≤ x16 ∧ x16 < ((s15.n : Nat) : Int) ∧ (∃ (cs23 : List Value) (z24 : Nat), h12 b21 = some (.inl ⟨cs23, z24, false⟩) ∧ (o22 + Int.toNat x16 * 1) + 1 ≤ List.length cs23 ∧ setH (h12.row b21 (lset cs23 (o22 + Int.toNat x16 * 1) [(.bool true)]) z24) fun h25 => next14 [s15.v, (I (W (x16 + 1)))] h25)) (R s15.v h12))) [(.slice (some (Addr.mk b8 0 none)) (Int.toNat ((s7.n : Nat) : Int)) (Int.toNat ((s7.n : Nat) : Int))), (I 0)] h9)
theorem E_spec_l10Every (x1 : Int) (s2 : Sl) (h : Hp) (R : Value → Hp → Prop) : ABd PR Try.f69 A_spec_l10Every #[(.agg #[(I x1), s2.v])] h R = F_spec_l10Every x1 s2 h R := by kernel_rfl
theorem O_spec_l10Every : okF PR 69 = true := by kernel_rfl
theorem B_spec_l10Every : Try.f69.body.isSome = true := by kernel_rfl
theorem R_spec_l10Every {x1 : Int} {s2 : Sl} {h : Hp} {R : Value → Hp → Prop} (e : F_spec_l10Every x1 s2 h R) : c_spec_l10Every #[(.agg #[(I x1), s2.v])] h R :=
  acalls mixed Try.func69 B_spec_l10Every O_spec_l10Every A_spec_l10Every (by kernel_rfl) ((E_spec_l10Every x1 s2 h R).mpr e)

def A_spec_l1Bit : Ann := fun r => []
def F_spec_l1Bit (x1 : Int) (x2 : Int) (h : Hp) (R : Value → Hp → Prop) : Prop :=
  if (IntKind.wrap .u64 (x2)) < 0 then False else (R (I (Int.tmod (shrW x1 (IntKind.wrap .u64 (x2))) 2)) h)
theorem E_spec_l1Bit (x1 : Int) (x2 : Int) (h : Hp) (R : Value → Hp → Prop) : ABd PR Try.f115 A_spec_l1Bit #[(I x1), (I x2)] h R = F_spec_l1Bit x1 x2 h R := by kernel_rfl
theorem O_spec_l1Bit : okF PR 115 = true := by kernel_rfl
theorem B_spec_l1Bit : Try.f115.body.isSome = true := by kernel_rfl
theorem R_spec_l1Bit {x1 : Int} {x2 : Int} {h : Hp} {R : Value → Hp → Prop} (e : F_spec_l1Bit x1 x2 h R) : c_spec_l1Bit #[(I x1), (I x2)] h R :=
  acalls mixed Try.func115 B_spec_l1Bit O_spec_l1Bit A_spec_l1Bit (by kernel_rfl) ((E_spec_l1Bit x1 x2 h R).mpr e)

def A_spec_l10True : Ann := fun r => []
def F_spec_l10True (x1 : Int) (x2 : Int) (h : Hp) (R : Value → Hp → Prop) : Prop :=
  bsplit (decide (x1 > 0)) (c_spec_l1Bit #[(I x2), (I (W (x1 - 1)))] h fun v7 h8 => ∃ (x9 : Int), v7 = (I x9) ∧ (R (.bool (x9 == 1)) h8)) (c_spec_l1Bit #[(I x2), (I (W ((W (0 - x1)) - 1)))] h fun v11 h12 => ∃ (x13 : Int), v11 = (I x13) ∧ (R (.bool (x13 == 0)) h12))
theorem E_spec_l10True (x1 : Int) (x2 : Int) (h : Hp) (R : Value → Hp → Prop) : ABd PR Try.f113 A_spec_l10True #[(I x1), (I x2)] h R = F_spec_l10True x1 x2 h R := by kernel_rfl
theorem O_spec_l10True : okF PR 113 = true := by kernel_rfl
theorem B_spec_l10True : Try.f113.body.isSome = true := by kernel_rfl
theorem R_spec_l10True {x1 : Int} {x2 : Int} {h : Hp} {R : Value → Hp → Prop} (e : F_spec_l10True x1 x2 h R) : c_spec_l10True #[(I x1), (I x2)] h R :=
  acalls mixed Try.func113 B_spec_l10True O_spec_l10True A_spec_l10True (by kernel_rfl) ((E_spec_l10True x1 x2 h R).mpr e)

def A_spec_l10Any : Ann := fun r => if r = 2 then [(0, .slice 0), (1, .int .i64), (5, .int .i64)] else []
def F_spec_l10Any (s1 : Sl) (x2 : Int) (h : Hp) (R : Value → Hp → Prop) : Prop :=
  ALoop (fun vs7 h6 next8 => ∃ (s9 : Sl) (x10 : Int) (x11 : Int), vs7 = [s9.v, (I x10), (I x11)] ∧ (bsplit (decide (x11 < ((s9.n : Nat) : Int))) (∃ b16 o17 : Nat, s9.a = some (Addr.mk b16 o17 none) ∧ (0 : Int) ≤ x11 ∧ x11 < ((s9.n : Nat) : Int) ∧ (∃ (x18 : Int), Hp.cell h6 b16 (o17 + Int.toNat x11 * 1) = some (I x18) ∧ (c_spec_l10True #[(I x18), (I x10)] h6 fun v19 h20 => ∃ (c21 : Bool), v19 = (.bool c21) ∧ (bsplit c21 (R (.bool true) h20) (next8 [s9.v, (I x10), (I (W (x11 + 1)))] h20))))) (R (.bool false) h6))) [s1.v, (I x2), (I 0)] h
theorem E_spec_l10Any (s1 : Sl) (x2 : Int) (h : Hp) (R : Value → Hp → Prop) : ABd PR Try.f106 A_spec_l10Any #[s1.v, (I x2)] h R = F_spec_l10Any s1 x2 h R := by kernel_rfl
theorem O_spec_l10Any : okF PR 106 = true := by kernel_rfl
theorem B_spec_l10Any : Try.f106.body.isSome = true := by kernel_rfl
theorem R_spec_l10Any {s1 : Sl} {x2 : Int} {h : Hp} {R : Value → Hp → Prop} (e : F_spec_l10Any s1 x2 h R) : c_spec_l10Any #[s1.v, (I x2)] h R :=
  acalls mixed Try.func106 B_spec_l10Any O_spec_l10Any A_spec_l10Any (by kernel_rfl) ((E_spec_l10Any s1 x2 h R).mpr e)

def A_spec_l10All : Ann := fun r => if r = 2 then [(1, .slice 0), (2, .int .i64), (3, .unsafePointer), (7, .int .i64)] else []
def F_spec_l10All (x1 : Int) (s2 : Sl) (s3 : Sl) (x4 : Int) (h : Hp) (R : Value → Hp → Prop) : Prop :=
  ∀ b6 : Nat, h b6 = none → setH (h.row b6 [(I x1), s2.v] 2) fun h7 => ALoop (fun vs11 h10 next12 => ∃ (s13 : Sl) (x14 : Int) (b15 o16 : Nat) (x17 : Int), vs11 = [s13.v, (I x14), (.pointer (some (Addr.mk b15 o16 none))), (I x17)] ∧ (∃ (s19 : Sl), Hp.cell h10 b15 (o16 + 1) = some s19.v ∧ (bsplit (decide (x17 < ((s19.n : Nat) : Int))) (joinP (fun (c32 : Bool) (h33 : Hp) => bsplit c32 (R (.bool false) h33) (next12 [s13.v, (I x14), (.pointer (some (Addr.mk b15 o16 none))), (I (W (x17 + 1)))] h33)) fun J37 => ∃ b22 o23 : Nat, s13.a = some (Addr.mk b22 o23 none) ∧ (0 : Int) ≤ x17 ∧ x17 < ((s13.n : Nat) : Int) ∧ (∃ (c24 : Bool), Hp.cell h10 b22 (o23 + Int.toNat x17 * 1) = some (.bool c24) ∧ (bsplit c24 (∃ (s25 : Sl), Hp.cell h10 b15 (o16 + 1) = some s25.v ∧ (∃ b26 o27 : Nat, s25.a = some (Addr.mk b26 o27 none) ∧ (0 : Int) ≤ x17 ∧ x17 < ((s25.n : Nat) : Int) ∧ (∃ (s28 : Sl), Hp.cell h10 b26 (o27 + Int.toNat x17 * 1) = some s28.v ∧ (c_spec_l10Any #[s28.v, (I x14)] h10 fun v29 h30 => ∃ (c31 : Bool), v29 = (.bool c31) ∧ (J37 (!c31) h30))))) (J37 false h10)))) (R (.bool true) h10)))) [s3.v, (I x4), (.pointer (some (Addr.mk b6 0 none))), (I 0)] h7
theorem E_spec_l10All (x1 : Int) (s2 : Sl) (s3 : Sl) (x4 : Int) (h : Hp) (R : Value → Hp → Prop) : ABd PR Try.f84 A_spec_l10All #[(.agg #[(I x1), s2.v]), s3.v, (I x4)] h R = F_spec_l10All x1 s2 s3 x4 h R := by kernel_rfl
theorem O_spec_l10All : okF PR 84 = true := by kernel_rfl
theorem B_spec_l10All : Try.f84.body.isSome = true := by kernel_rfl
theorem R_spec_l10All {x1 : Int} {s2 : Sl} {s3 : Sl} {x4 : Int} {h : Hp} {R : Value → Hp → Prop} (e : F_spec_l10All x1 s2 s3 x4 h R) : c_spec_l10All #[(.agg #[(I x1), s2.v]), s3.v, (I x4)] h R :=
  acalls mixed Try.func84 B_spec_l10All O_spec_l10All A_spec_l10All (by kernel_rfl) ((E_spec_l10All x1 s2 s3 x4 h R).mpr e)

def A_spec_l10Least : Ann := fun r => if r = 2 then [(1, .slice 0), (2, .unsafePointer), (5, .int .i64)] else []
def F_spec_l10Least (x1 : Int) (s2 : Sl) (s3 : Sl) (h : Hp) (R : Value → Hp → Prop) : Prop :=
  ∀ b5 : Nat, h b5 = none → setH (h.row b5 [(I x1), s2.v] 2) fun h6 => ALoop (fun vs10 h9 next11 => ∃ (s12 : Sl) (b13 o14 : Nat) (x15 : Int), vs10 = [s12.v, (.pointer (some (Addr.mk b13 o14 none))), (I x15)] ∧ (∃ (x17 : Int), Hp.cell h9 b13 o14 = some (I x17) ∧ (if (IntKind.wrap .u64 (x17)) < 0 then False else (bsplit (decide (x15 < (shlW 1 (IntKind.wrap .u64 (x17))))) (∃ (x21 : Int), Hp.cell h9 b13 o14 = some (I x21) ∧ (∃ (s22 : Sl), Hp.cell h9 b13 (o14 + 1) = some s22.v ∧ (c_spec_l10All #[(.agg #[(I x21), s22.v]), s12.v, (I x15)] h9 fun v23 h24 => ∃ (c25 : Bool), v23 = (.bool c25) ∧ (bsplit c25 (R (I x15) h24) (next11 [s12.v, (.pointer (some (Addr.mk b13 o14 none))), (I (W (x15 + 1)))] h24))))) (R (I (-1)) h9))))) [s3.v, (.pointer (some (Addr.mk b5 0 none))), (I 0)] h6
theorem E_spec_l10Least (x1 : Int) (s2 : Sl) (s3 : Sl) (h : Hp) (R : Value → Hp → Prop) : ABd PR Try.f70 A_spec_l10Least #[(.agg #[(I x1), s2.v]), s3.v] h R = F_spec_l10Least x1 s2 s3 h R := by kernel_rfl
theorem O_spec_l10Least : okF PR 70 = true := by kernel_rfl
theorem B_spec_l10Least : Try.f70.body.isSome = true := by kernel_rfl
theorem R_spec_l10Least {x1 : Int} {s2 : Sl} {s3 : Sl} {h : Hp} {R : Value → Hp → Prop} (e : F_spec_l10Least x1 s2 s3 h R) : c_spec_l10Least #[(.agg #[(I x1), s2.v]), s3.v] h R :=
  acalls mixed Try.func70 B_spec_l10Least O_spec_l10Least A_spec_l10Least (by kernel_rfl) ((E_spec_l10Least x1 s2 s3 h R).mpr e)

def A_spec_SatLeast : Ann := fun r => []
def F_spec_SatLeast (x1 : Int) (s2 : Sl) (h : Hp) (R : Value → Hp → Prop) : Prop :=
  ∀ b4 : Nat, h b4 = none → setH (h.row b4 [(I x1), s2.v] 2) fun h5 => ∃ (x7 : Int), Hp.cell h5 b4 0 = some (I x7) ∧ (∃ (s8 : Sl), Hp.cell h5 b4 1 = some s8.v ∧ (c_spec_CnfOk #[(.agg #[(I x7), s8.v])] h5 fun v9 h10 => ∃ (c11 : Bool), v9 = (.bool c11) ∧ (bsplit (!c11) (R (.tuple #[(I 0), (.bool false)]) h10) (∃ (x15 : Int), Hp.cell h10 b4 0 = some (I x15) ∧ (∃ (s16 : Sl), Hp.cell h10 b4 1 = some s16.v ∧ (∃ (x17 : Int), Hp.cell h10 b4 0 = some (I x17) ∧ (∃ (s18 : Sl), Hp.cell h10 b4 1 = some s18.v ∧ (c_spec_l10Every #[(.agg #[(I x17), s18.v])] h10 fun v19 h20 => ∃ (s21 : Sl), v19 = s21.v ∧ (h20 b4 = h10 b4 ∧ (c_spec_l10Least #[(.agg #[(I x15), s16.v]), s21.v] h20 fun v22 h23 => ∃ (x24 : Int), v22 = (I x24) ∧ (bsplit (decide (x24 < 0)) (R (.tuple #[(I 0), (.bool false)]) h23) (R (.tuple #[(I x24), (.bool true)]) h23))))))))))))
theorem E_spec_SatLeast (x1 : Int) (s2 : Sl) (h : Hp) (R : Value → Hp → Prop) : ABd PR Try.f26 A_spec_SatLeast #[(.agg #[(I x1), s2.v])] h R = F_spec_SatLeast x1 s2 h R := by kernel_rfl
theorem O_spec_SatLeast : okF PR 26 = true := by kernel_rfl
theorem B_spec_SatLeast : Try.f26.body.isSome = true := by kernel_rfl
theorem R_spec_SatLeast {x1 : Int} {s2 : Sl} {h : Hp} {R : Value → Hp → Prop} (e : F_spec_SatLeast x1 s2 h R) : c_spec_SatLeast #[(.agg #[(I x1), s2.v])] h R :=
  acalls mixed Try.func26 B_spec_SatLeast O_spec_SatLeast A_spec_SatLeast (by kernel_rfl) ((E_spec_SatLeast x1 s2 h R).mpr e)

def A_spec_l10Has : Ann := fun r => if r = 2 then [(0, .slice 0), (1, .int .i64), (5, .int .i64)] else []
def F_spec_l10Has (s1 : Sl) (x2 : Int) (h : Hp) (R : Value → Hp → Prop) : Prop :=
  ALoop (fun vs7 h6 next8 => ∃ (s9 : Sl) (x10 : Int) (x11 : Int), vs7 = [s9.v, (I x10), (I x11)] ∧ (bsplit (decide (x11 < ((s9.n : Nat) : Int))) (∃ b16 o17 : Nat, s9.a = some (Addr.mk b16 o17 none) ∧ (0 : Int) ≤ x11 ∧ x11 < ((s9.n : Nat) : Int) ∧ (∃ (x18 : Int), Hp.cell h6 b16 (o17 + Int.toNat x11 * 1) = some (I x18) ∧ (bsplit (x18 == x10) (R (.bool true) h6) (next8 [s9.v, (I x10), (I (W (x11 + 1)))] h6)))) (R (.bool false) h6))) [s1.v, (I x2), (I 0)] h
theorem E_spec_l10Has (s1 : Sl) (x2 : Int) (h : Hp) (R : Value → Hp → Prop) : ABd PR Try.f73 A_spec_l10Has #[s1.v, (I x2)] h R = F_spec_l10Has s1 x2 h R := by kernel_rfl
theorem O_spec_l10Has : okF PR 73 = true := by kernel_rfl
theorem B_spec_l10Has : Try.f73.body.isSome = true := by kernel_rfl
theorem R_spec_l10Has {s1 : Sl} {x2 : Int} {h : Hp} {R : Value → Hp → Prop} (e : F_spec_l10Has s1 x2 h R) : c_spec_l10Has #[s1.v, (I x2)] h R :=
  acalls mixed Try.func73 B_spec_l10Has O_spec_l10Has A_spec_l10Has (by kernel_rfl) ((E_spec_l10Has s1 x2 h R).mpr e)

def A_spec_l10Left : Ann := fun r => if r = 3 then [(0, .slice 0), (1, .slice 0), (6, .int .i64), (7, .int .i64)] else []
def F_spec_l10Left (s1 : Sl) (s2 : Sl) (h : Hp) (R : Value → Hp → Prop) : Prop :=
  ALoop (fun vs8 h7 next9 => ∃ (s10 : Sl) (s11 : Sl) (x12 : Int) (x13 : Int), vs8 = [s10.v, s11.v, (I x12), (I x13)] ∧ (bsplit (decide (x13 < ((s10.n : Nat) : Int))) (∃ b17 o18 : Nat, s10.a = some (Addr.mk b17 o18 none) ∧ (0 : Int) ≤ x13 ∧ x13 < ((s10.n : Nat) : Int) ∧ (∃ (x19 : Int), Hp.cell h7 b17 (o18 + Int.toNat x13 * 1) = some (I x19) ∧ (c_spec_l10Has #[s11.v, (I x19)] h7 fun v20 h21 => ∃ (c22 : Bool), v20 = (.bool c22) ∧ (bsplit c22 (R (.tuple #[(I 0), (.bool false)]) h21) (∃ b26 o27 : Nat, s10.a = some (Addr.mk b26 o27 none) ∧ (0 : Int) ≤ x13 ∧ x13 < ((s10.n : Nat) : Int) ∧ (∃ (x28 : Int), Hp.cell h21 b26 (o27 + Int.toNat x13 * 1) = some (I x28) ∧ (c_spec_l10Has #[s11.v, (I (W (0 - x28)))] h21 fun v29 h30 => ∃ (c31 : Bool), v29 = (.bool c31) ∧ (bsplit (!c31) (joinP (fun (c36 : Bool) => bsplit c36 (R (.tuple #[(I 0), (.bool false)]) h30) (∃ b40 o41 : Nat, s10.a = some (Addr.mk b40 o41 none) ∧ (0 : Int) ≤ x13 ∧ x13 < ((s10.n : Nat) : Int) ∧ (∃ (x42 : Int), Hp.cell h30 b40 (o41 + Int.toNat x13 * 1) = some (I x42) ∧ (next9 [s10.v, s11.v, (I x42), (I (W (x13 + 1)))] h30)))) fun J44 => bsplit (x12 != 0) (∃ b33 o34 : Nat, s10.a = some (Addr.mk b33 o34 none) ∧ (0 : Int) ≤ x13 ∧ x13 < ((s10.n : Nat) : Int) ∧ (∃ (x35 : Int), Hp.cell h30 b33 (o34 + Int.toNat x13 * 1) = some (I x35) ∧ (J44 (x12 != x35)))) (J44 false)) (next9 [s10.v, s11.v, (I x12), (I (W (x13 + 1)))] h30))))))))) (R (.tuple #[(I x12), (.bool (x12 == 0))]) h7))) [s1.v, s2.v, (I 0), (I 0)] h
theorem E_spec_l10Left (s1 : Sl) (s2 : Sl) (h : Hp) (R : Value → Hp → Prop) : ABd PR Try.f99 A_spec_l10Left #[s1.v, s2.v] h R = F_spec_l10Left s1 s2 h R := by kernel_rfl
theorem O_spec_l10Left : okF PR 99 = true := by kernel_rfl
theorem B_spec_l10Left : Try.f99.body.isSome = true := by kernel_rfl
theorem R_spec_l10Left {s1 : Sl} {s2 : Sl} {h : Hp} {R : Value → Hp → Prop} (e : F_spec_l10Left s1 s2 h R) : c_spec_l10Left #[s1.v, s2.v] h R :=
  acalls mixed Try.func99 B_spec_l10Left O_spec_l10Left A_spec_l10Left (by kernel_rfl) ((E_spec_l10Left s1 s2 h R).mpr e)

def A_spec_l10Units : Ann := fun r => if r = 3 then [(0, .slice 0), (1, .slice 0), (6, .slice 0), (7, .int .i64)] else if r = 10 then [(0, .slice 0), (6, .slice 0), (8, .bool)] else if r = 13 then [(0, .slice 0), (6, .slice 0), (8, .bool), (9, .int .i64)] else []
def F_spec_l10Units (s1 : Sl) (s2 : Sl) (h : Hp) (R : Value → Hp → Prop) : Prop :=
  ALoop (fun vs8 h7 next9 => ∃ (s10 : Sl) (s11 : Sl) (s12 : Sl) (x13 : Int), vs8 = [s10.v, s11.v, s12.v, (I x13)] ∧ (bsplit (decide (x13 < ((s11.n : Nat) : Int))) (∃ b17 o18 : Nat, s11.a = some (Addr.mk b17 o18 none) ∧ (0 : Int) ≤ x13 ∧ x13 < ((s11.n : Nat) : Int) ∧ (∃ (x19 : Int), Hp.cell h7 b17 (o18 + Int.toNat x13 * 1) = some (I x19) ∧ (c_spec_l10Has #[s12.v, (I (W (0 - x19)))] h7 fun v20 h21 => ∃ (c22 : Bool), v20 = (.bool c22) ∧ (bsplit c22 (R (.tuple #[(.slice none 0 0), (.bool true)]) h21) (∃ b26 o27 : Nat, s11.a = some (Addr.mk b26 o27 none) ∧ (0 : Int) ≤ x13 ∧ x13 < ((s11.n : Nat) : Int) ∧ (∃ (x28 : Int), Hp.cell h21 b26 (o27 + Int.toNat x13 * 1) = some (I x28) ∧ (c_spec_l10Has #[s12.v, (I x28)] h21 fun v29 h30 => ∃ (c31 : Bool), v29 = (.bool c31) ∧ (bsplit (!c31) (∃ b33 o34 : Nat, s11.a = some (Addr.mk b33 o34 none) ∧ (0 : Int) ≤ x13 ∧ x13 < ((s11.n : Nat) : Int) ∧ (∃ (x35 : Int), Hp.cell h30 b33 (o34 + Int.toNat x13 * 1) = some (I x35) ∧ (∀ b36 : Nat, h30 b36 = none → setH (h30.row b36 [(I x35)] 1) fun h37 => aApp h37 s12.a s12.n s12.c (some (Addr.mk b36 0 none)) 1 1 8 fun a38 n39 k40 h41 => next9 [s10.v, s11.v, (.slice a38 n39 k40), (I (W (x13 + 1)))] h41))) (next9 [s10.v, s11.v, s12.v, (I (W (x13 + 1)))] h30))))))))) (ALoop (fun vs47 h46 next48 => ∃ (s49 : Sl) (s50 : Sl) (c51 : Bool), vs47 = [s49.v, s50.v, (.bool c51)] ∧ (bsplit c51 (ALoop (fun vs59 h58 next60 => ∃ (s61 : Sl) (s62 : Sl) (c63 : Bool) (x64 : Int), vs59 = [s61.v, s62.v, (.bool c63), (I x64)] ∧ (bsplit (decide (x64 < ((s61.n : Nat) : Int))) (∃ b68 o69 : Nat, s61.a = some (Addr.mk b68 o69 none) ∧ (0 : Int) ≤ x64 ∧ x64 < ((s61.n : Nat) : Int) ∧ (∃ (s70 : Sl), Hp.cell h58 b68 (o69 + Int.toNat x64 * 1) = some s70.v ∧ (c_spec_l10Left #[s70.v, s62.v] h58 fun v71 h72 => ∃ (x73 : Int) (c74 : Bool), v71 = (.tuple #[(I x73), (.bool c74)]) ∧ (bsplit c74 (R (.tuple #[(.slice none 0 0), (.bool true)]) h72) (bsplit (x73 != 0) (∀ b80 : Nat, h72 b80 = none → setH (h72.row b80 [(I x73)] 1) fun h81 => aApp h81 s62.a s62.n s62.c (some (Addr.mk b80 0 none)) 1 1 8 fun a82 n83 k84 h85 => next60 [s61.v, (.slice a82 n83 k84), (.bool true), (I (W (x64 + 1)))] h85) (next60 [s61.v, s62.v, (.bool c63), (I (W (x64 + 1)))] h72)))))) (next48 [s61.v, s62.v, (.bool c63)] h58))) [s49.v, s50.v, (.bool false), (I 0)] h46) (R (.tuple #[s50.v, (.bool false)]) h46))) [s10.v, s12.v, (.bool true)] h7))) [s1.v, s2.v, (.slice none 0 0), (I 0)] h
theorem E_spec_l10Units (s1 : Sl) (s2 : Sl) (h : Hp) (R : Value → Hp → Prop) : ABd PR Try.f72 A_spec_l10Units #[s1.v, s2.v] h R = F_spec_l10Units s1 s2 h R := by kernel_rfl
theorem O_spec_l10Units : okF PR 72 = true := by kernel_rfl
theorem B_spec_l10Units : Try.f72.body.isSome = true := by kernel_rfl
theorem R_spec_l10Units {s1 : Sl} {s2 : Sl} {h : Hp} {R : Value → Hp → Prop} (e : F_spec_l10Units s1 s2 h R) : c_spec_l10Units #[s1.v, s2.v] h R :=
  acalls mixed Try.func72 B_spec_l10Units O_spec_l10Units A_spec_l10Units (by kernel_rfl) ((E_spec_l10Units s1 s2 h R).mpr e)

def A_impl_units : Ann := fun r => if r = 3 then [(1, .slice 0), (8, .map 0 0), (19, .slice 0), (20, .int .i64), (21, .int .i64)] else if r = 10 then [(1, .slice 0), (8, .map 0 0), (11, .bool)] else if r = 13 then [(1, .slice 0), (8, .map 0 0), (11, .bool), (33, .slice 0), (34, .int .i64), (35, .int .i64)] else if r = 18 then [(1, .slice 0), (8, .map 0 0), (11, .bool), (14, .int .i64), (15, .bool), (33, .slice 0), (34, .int .i64), (35, .int .i64), (39, .slice 0), (40, .int .i64), (41, .int .i64)] else []
def F_impl_units (x1 : Int) (s2 : Sl) (s3 : Sl) (h : Hp) (R : Value → Hp → Prop) : Prop :=
  ∀ b6 : Nat, h b6 = none → setH (h.set b6 (some (.inr []))) fun h7 => ALoop (fun vs11 h10 next12 => ∃ (s13 : Sl) (m14 : Option Nat) (s15 : Sl) (x16 : Int) (x17 : Int), vs11 = [s13.v, (.map m14), s15.v, (I x16), (I x17)] ∧ (bsplit (decide (x17 < x16)) (∃ b22 o23 : Nat, s15.a = some (Addr.mk b22 o23 none) ∧ (0 : Int) ≤ x17 ∧ x17 < ((s15.n : Nat) : Int) ∧ (∃ (x24 : Int), Hp.cell h10 b22 (o23 + Int.toNat x17 * 1) = some (I x24) ∧ (∃ (r26 : Nat) (es27 : List (Value × Value)) (res28 : Option (Nat × Value)), m14 = some r26 ∧ h10 r26 = some (.inr es27) ∧ mlook (Instr.sameNow (.int .i64) (I (W (0 - x24)))) es27 0 = some res28 ∧ ∃ (c29 : Bool), Option.getD (Option.map (fun p => p.2) res28) (.bool false) = (.bool c29) ∧ (bsplit c29 (R (.tuple #[(.map none), (.bool true)]) h10) (∃ (r33 : Nat) (es34 : List (Value × Value)) (res35 : Option (Nat × Value)), m14 = some r33 ∧ h10 r33 = some (.inr es34) ∧ mlook (Instr.sameNow (.int .i64) (I x24)) es34 0 = some res35 ∧ True ∧ setH (h10.set r33 (some (.inr (mput es34 (I x24) (.bool true) res35)))) fun h36 => next12 [s13.v, (.map m14), s15.v, (I x16), (I (W (x17 + 1)))] h36))))) (ALoop (fun vs41 h40 next42 => ∃ (s43 : Sl) (m44 : Option Nat) (c45 : Bool), vs41 = [s43.v, (.map m44), (.bool c45)] ∧ (bsplit c45 (ALoop (fun vs53 h52 next54 => ∃ (s55 : Sl) (m56 : Option Nat) (c57 : Bool) (s58 : Sl) (x59 : Int) (x60 : Int), vs53 = [s55.v, (.map m56), (.bool c57), s58.v, (I x59), (I x60)] ∧ (bsplit (decide (x60 < x59)) (∃ b64 o65 : Nat, s58.a = some (Addr.mk b64 o65 none) ∧ (0 : Int) ≤ x60 ∧ x60 < ((s58.n : Nat) : Int) ∧ (∃ (s66 : Sl), Hp.cell h52 b64 (o65 + Int.toNat x60 * 1) = some s66.v ∧ (ALoop (fun vs72 h71 next73 => ∃ (s74 : Sl) (m75 : Option Nat) (c76 : Bool) (x77 : Int) (c78 : Bool) (s79 : Sl) (x80 : Int) (x81 : Int) (s82 : Sl) (x83 : Int) (x84 : Int), vs72 = [s74.v, (.map m75), (.bool c76), (I x77), (.bool c78), s79.v, (I x80), (I x81), s82.v, (I x83), (I x84)] ∧ (bsplit (decide (x84 < x83)) (joinP (fun (x99 : Int) (c100 : Bool) => next73 [s74.v, (.map m75), (.bool c76), (I x99), (.bool c100), s79.v, (I x80), (I x81), s82.v, (I x83), (I (W (x84 + 1)))] h71) fun J102 => ∃ b89 o90 : Nat, s82.a = some (Addr.mk b89 o90 none) ∧ (0 : Int) ≤ x84 ∧ x84 < ((s82.n : Nat) : Int) ∧ (∃ (x91 : Int), Hp.cell h71 b89 (o90 + Int.toNat x84 * 1) = some (I x91) ∧ (∃ (r92 : Nat) (es93 : List (Value × Value)) (res94 : Option (Nat × Value)), m75 = some r92 ∧ h71 r92 = some (.inr es93) ∧ mlook (Instr.sameNow (.int .i64) (I (W (0 - x91)))) es93 0 = some res94 ∧ ∃ (c95 : Bool), Option.getD (Option.map (fun p => p.2) res94) (.bool false) = (.bool c95) ∧ (bsplit c95 (J102 x77 c78) (bsplit (x91 == x77) (J102 x77 c78) (bsplit c78 (J102 x91 true) (J102 x91 (x77 != 0)))))))) (bsplit (x77 == 0) (R (.tuple #[(.map none), (.bool true)]) h71) (joinP (fun (c110 : Bool) => bsplit c110 (∃ (r112 : Nat) (es113 : List (Value × Value)) (res114 : Option (Nat × Value)), m75 = some r112 ∧ h71 r112 = some (.inr es113) ∧ mlook (Instr.sameNow (.int .i64) (I x77)) es113 0 = some res114 ∧ True ∧ setH (h71.set r112 (some (.inr (mput es113 (I x77) (.bool true) res114)))) fun h115 => next54 [s74.v, (.map m75), (.bool true), s79.v, (I x80), (I (W (x81 + 1)))] h115) (next54 [s74.v, (.map m75), (.bool c76), s79.v, (I x80), (I (W (x81 + 1)))] h71)) fun J119 => bsplit (!c78) (∃ (r106 : Nat) (es107 : List (Value × Value)) (res108 : Option (Nat × Value)), m75 = some r106 ∧ h71 r106 = some (.inr es107) ∧ mlook (Instr.sameNow (.int .i64) (I x77)) es107 0 = some res108 ∧ ∃ (c109 : Bool), Option.getD (Option.map (fun p => p.2) res108) (.bool false) = (.bool c109) ∧ (J119 (!c109))) (J119 false))))) [s55.v, (.map m56), (.bool c57), (I 0), (.bool false), s58.v, (I x59), (I x60), s66.v, (I ((s66.n : Nat) : Int)), (I 0)] h52))) (next42 [s55.v, (.map m56), (.bool c57)] h52))) [s43.v, (.map m44), (.bool false), s43.v, (I ((s43.n : Nat) : Int)), (I 0)] h40) (R (.tuple #[(.map m44), (.bool false)]) h40))) [s13.v, (.map m14), (.bool true)] h10))) [s2.v, (.map (some b6)), s3.v, (I ((s3.n : Nat) : Int)), (I 0)] h7
theorem E_impl_units (x1 : Int) (s2 : Sl) (s3 : Sl) (h : Hp) (R : Value → Hp → Prop) : ABd PR Try.f75 A_impl_units #[(I x1), s2.v, s3.v] h R = F_impl_units x1 s2 s3 h R := by kernel_rfl
theorem O_impl_units : okF PR 75 = true := by kernel_rfl
theorem B_impl_units : Try.f75.body.isSome = true := by kernel_rfl
theorem R_impl_units {x1 : Int} {s2 : Sl} {s3 : Sl} {h : Hp} {R : Value → Hp → Prop} (e : F_impl_units x1 s2 s3 h R) : c_impl_units #[(I x1), s2.v, s3.v] h R :=
  acalls mixed Try.func75 B_impl_units O_impl_units A_impl_units (by kernel_rfl) ((E_impl_units x1 s2 s3 h R).mpr e)

def A_spec_l11Shape : Ann := fun r => if r = 4 then [(1, .slice 0), (2, .unsafePointer), (5, .int .i64)] else []
def F_spec_l11Shape (x1 : Int) (s2 : Sl) (s3 : Sl) (h : Hp) (R : Value → Hp → Prop) : Prop :=
  ∀ b5 : Nat, h b5 = none → setH (h.row b5 [(I x1), s2.v] 2) fun h6 => joinP (fun (c13 : Bool) (h14 : Hp) => bsplit c13 (R (.bool false) h14) (ALoop (fun vs20 h19 next21 => ∃ (s22 : Sl) (b23 o24 : Nat) (x25 : Int), vs20 = [s22.v, (.pointer (some (Addr.mk b23 o24 none))), (I x25)] ∧ (bsplit (decide (x25 < ((s22.n : Nat) : Int))) (∃ b30 o31 : Nat, s22.a = some (Addr.mk b30 o31 none) ∧ (0 : Int) ≤ x25 ∧ x25 < ((s22.n : Nat) : Int) ∧ (∃ (s32 : Sl), Hp.cell h19 b30 (o31 + Int.toNat x25 * 1) = some s32.v ∧ (∃ (x33 : Int), Hp.cell h19 b23 o24 = some (I x33) ∧ (c_spec_l10Clause #[s32.v, (I x33)] h19 fun v34 h35 => ∃ (c36 : Bool), v34 = (.bool c36) ∧ (bsplit (!c36) (R (.bool false) h35) (next21 [s22.v, (.pointer (some (Addr.mk b23 o24 none))), (I (W (x25 + 1)))] h35)))))) (R (.bool true) h19))) [s3.v, (.pointer (some (Addr.mk b5 0 none))), (I 0)] h14)) fun J41 => ∃ (x8 : Int), Hp.cell h6 b5 0 = some (I x8) ∧ (∃ (s9 : Sl), Hp.cell h6 b5 1 = some s9.v ∧ (c_spec_CnfOk #[(.agg #[(I x8), s9.v])] h6 fun v10 h11 => ∃ (c12 : Bool), v10 = (.bool c12) ∧ (bsplit (!c12) (J41 true h11) (J41 (decide (((s3.n : Nat) : Int) > 300)) h11))))
theorem E_spec_l11Shape (x1 : Int) (s2 : Sl) (s3 : Sl) (h : Hp) (R : Value → Hp → Prop) : ABd PR Try.f77 A_spec_l11Shape #[(.agg #[(I x1), s2.v]), s3.v] h R = F_spec_l11Shape x1 s2 s3 h R := by kernel_rfl
theorem O_spec_l11Shape : okF PR 77 = true := by kernel_rfl
theorem B_spec_l11Shape : Try.f77.body.isSome = true := by kernel_rfl
theorem R_spec_l11Shape {x1 : Int} {s2 : Sl} {s3 : Sl} {h : Hp} {R : Value → Hp → Prop} (e : F_spec_l11Shape x1 s2 s3 h R) : c_spec_l11Shape #[(.agg #[(I x1), s2.v]), s3.v] h R :=
  acalls mixed Try.func77 B_spec_l11Shape O_spec_l11Shape A_spec_l11Shape (by kernel_rfl) ((E_spec_l11Shape x1 s2 s3 h R).mpr e)

end Go.Lead
