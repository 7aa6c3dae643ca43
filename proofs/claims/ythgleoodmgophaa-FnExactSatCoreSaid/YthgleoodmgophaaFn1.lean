/- The walks of the functions, part 1, written by a program: what the abstract walk of each body comes to. No statement is proved here. -/
import Derived.Test.YthgleoodmgophaaFn
set_option maxRecDepth 100000
set_option linter.unusedVariables false
namespace Go.Lead
open Go Go.Proofs

def A_laws_markIntSS : Ann := fun r => if r = 2 then [(0, .slice 0), (1, .int .i64), (5, .int .i64)] else []
def F_laws_markIntSS (s1 : Sl) (x2 : Int) (h : Hp) (R : Value → Hp → Prop) : Prop :=
  ALoop (fun vs7 h6 next8 => ∃ (s9 : Sl) (x10 : Int) (x11 : Int), vs7 = [s9.v, (I x10), (I x11)] ∧ (bsplit (decide (x11 < ((s9.n : Nat) : Int))) (∃ b16 o17 : Nat, s9.a = some (Addr.mk b16 o17 none) ∧ (0 : Int) ≤ x11 ∧ x11 < ((s9.n : Nat) : Int) ∧ (∃ (s18 : Sl), Hp.cell h6 b16 (o17 + Int.toNat x11 * 1) = some s18.v ∧ (c_laws_markIntS #[s18.v, (I x10)] h6 fun v19 h20 => ∃ (x21 : Int), v19 = (I x21) ∧ (next8 [s9.v, (I x21), (I (W (x11 + 1)))] h20)))) (R (I x10) h6))) [s1.v, (I x2), (I 0)] h
theorem E_laws_markIntSS (s1 : Sl) (x2 : Int) (h : Hp) (R : Value → Hp → Prop) : ABd PR Try.f45 A_laws_markIntSS #[s1.v, (I x2)] h R = F_laws_markIntSS s1 x2 h R := by kernel_rfl
theorem O_laws_markIntSS : okF PR 45 = true := by kernel_rfl
theorem B_laws_markIntSS : Try.f45.body.isSome = true := by kernel_rfl
theorem R_laws_markIntSS {s1 : Sl} {x2 : Int} {h : Hp} {R : Value → Hp → Prop} (e : F_laws_markIntSS s1 x2 h R) : c_laws_markIntSS #[s1.v, (I x2)] h R :=
  acalls mixed Try.func45 B_laws_markIntSS O_laws_markIntSS A_laws_markIntSS (by kernel_rfl) ((E_laws_markIntSS s1 x2 h R).mpr e)

def A_laws_markCnf : Ann := fun r => []
def F_laws_markCnf (x1 : Int) (s2 : Sl) (x3 : Int) (h : Hp) (R : Value → Hp → Prop) : Prop :=
  ∀ b5 : Nat, h b5 = none → setH (h.row b5 [(I x1), s2.v] 2) fun h6 => ∃ (s8 : Sl), Hp.cell h6 b5 1 = some s8.v ∧ (c_laws_markIntSS #[s8.v, (I x3)] h6 fun v9 h10 => ∃ (x11 : Int), v9 = (I x11) ∧ (R (I x11) h10))
theorem E_laws_markCnf (x1 : Int) (s2 : Sl) (x3 : Int) (h : Hp) (R : Value → Hp → Prop) : ABd PR Try.f34 A_laws_markCnf #[(.agg #[(I x1), s2.v]), (I x3)] h R = F_laws_markCnf x1 s2 x3 h R := by kernel_rfl
theorem O_laws_markCnf : okF PR 34 = true := by kernel_rfl
theorem B_laws_markCnf : Try.f34.body.isSome = true := by kernel_rfl
theorem R_laws_markCnf {x1 : Int} {s2 : Sl} {x3 : Int} {h : Hp} {R : Value → Hp → Prop} (e : F_laws_markCnf x1 s2 x3 h R) : c_laws_markCnf #[(.agg #[(I x1), s2.v]), (I x3)] h R :=
  acalls mixed Try.func34 B_laws_markCnf O_laws_markCnf A_laws_markCnf (by kernel_rfl) ((E_laws_markCnf x1 s2 x3 h R).mpr e)

def A_laws_heldIntS : Ann := fun r => if r = 2 then [(0, .slice 0), (1, .int .i64), (5, .int .i64)] else []
def F_laws_heldIntS (s1 : Sl) (x2 : Int) (h : Hp) (R : Value → Hp → Prop) : Prop :=
  ALoop (fun vs7 h6 next8 => ∃ (s9 : Sl) (x10 : Int) (x11 : Int), vs7 = [s9.v, (I x10), (I x11)] ∧ (bsplit (decide (x11 < ((s9.n : Nat) : Int))) (∃ b16 o17 : Nat, s9.a = some (Addr.mk b16 o17 none) ∧ (0 : Int) ≤ x11 ∧ x11 < ((s9.n : Nat) : Int) ∧ (∃ (x18 : Int), Hp.cell h6 b16 (o17 + Int.toNat x11 * 1) = some (I x18) ∧ (bsplit (x18 != x10) (R (I (-1)) h6) (next8 [s9.v, (I (W (x10 + 1))), (I (W (x11 + 1)))] h6)))) (R (I x10) h6))) [s1.v, (I x2), (I 0)] h
theorem E_laws_heldIntS (s1 : Sl) (x2 : Int) (h : Hp) (R : Value → Hp → Prop) : ABd PR Try.f35 A_laws_heldIntS #[s1.v, (I x2)] h R = F_laws_heldIntS s1 x2 h R := by kernel_rfl
theorem O_laws_heldIntS : okF PR 35 = true := by kernel_rfl
theorem B_laws_heldIntS : Try.f35.body.isSome = true := by kernel_rfl
theorem R_laws_heldIntS {s1 : Sl} {x2 : Int} {h : Hp} {R : Value → Hp → Prop} (e : F_laws_heldIntS s1 x2 h R) : c_laws_heldIntS #[s1.v, (I x2)] h R :=
  acalls mixed Try.func35 B_laws_heldIntS O_laws_heldIntS A_laws_heldIntS (by kernel_rfl) ((E_laws_heldIntS s1 x2 h R).mpr e)

def A_laws_FnExactSatCore : Ann := fun r => []
def F_laws_FnExactSatCore (x1 : Int) (s2 : Sl) (h : Hp) (R : Value → Hp → Prop) : Prop :=
  ∀ b4 : Nat, h b4 = none → setH (h.row b4 [(I x1), s2.v] 2) fun h5 => ∃ (x8 : Int), Hp.cell h5 b4 0 = some (I x8) ∧ (∃ (s9 : Sl), Hp.cell h5 b4 1 = some s9.v ∧ (c_laws_szCnf #[(.agg #[(I x8), s9.v]), (I 1048576)] h5 fun v10 h11 => ∃ (x12 : Int), v10 = (I x12) ∧ (bsplit (decide (x12 < 0)) (R (.bool true) h11) (∃ (x17 : Int), Hp.cell h11 b4 0 = some (I x17) ∧ (∃ (s18 : Sl), Hp.cell h11 b4 1 = some s18.v ∧ (c_laws_toCnf #[(.agg #[(I x17), s18.v])] h11 fun v19 h20 => ∃ (x21 : Int) (s22 : Sl), v19 = (.agg #[(I x21), s22.v]) ∧ (c_spec_SatCore #[(.agg #[(I x21), s22.v])] h20 fun v23 h24 => ∃ (s25 : Sl) (c26 : Bool), v23 = (.tuple #[s25.v, (.bool c26)]) ∧ (∃ (x28 : Int), Hp.cell h24 b4 0 = some (I x28) ∧ (∃ (s29 : Sl), Hp.cell h24 b4 1 = some s29.v ∧ (c_laws_toCnf #[(.agg #[(I x28), s29.v])] h24 fun v30 h31 => ∃ (x32 : Int) (s33 : Sl), v30 = (.agg #[(I x32), s33.v]) ∧ (∀ b34 : Nat, h31 b34 = none → setH (h31.row b34 [(I 0), (.slice none 0 0)] 2) fun h35 => ∃ (cs36 : List Value) (z37 : Nat), h35 b34 = some (.inl ⟨cs36, z37, false⟩) ∧ 0 + 2 ≤ List.length cs36 ∧ setH (h35.row b34 (lset cs36 0 [(I x32), s33.v]) z37) fun h38 => ∃ (x40 : Int), Hp.cell h38 b34 0 = some (I x40) ∧ (∃ (s41 : Sl), Hp.cell h38 b34 1 = some s41.v ∧ (c_impl_SatCore #[(.agg #[(I x40), s41.v])] h38 fun v42 h43 => ∃ (s44 : Sl) (c45 : Bool), v42 = (.tuple #[s44.v, (.bool c45)]) ∧ (joinP (fun (c50 : Bool) (h51 : Hp) => bsplit c50 (R (.bool false) h51) (∃ (x55 : Int), Hp.cell h51 b34 0 = some (I x55) ∧ (∃ (s56 : Sl), Hp.cell h51 b34 1 = some s56.v ∧ (∃ (x57 : Int), Hp.cell h51 b4 0 = some (I x57) ∧ (∃ (s58 : Sl), Hp.cell h51 b4 1 = some s58.v ∧ (c_laws_toCnf #[(.agg #[(I x57), s58.v])] h51 fun v59 h60 => ∃ (x61 : Int) (s62 : Sl), v59 = (.agg #[(I x61), s62.v]) ∧ (h60 b34 = h51 b34 ∧ (c_laws_eqCnf #[(.agg #[(I x55), s56.v]), (.agg #[(I x61), s62.v])] h60 fun v63 h64 => ∃ (c65 : Bool), v63 = (.bool c65) ∧ (bsplit (!c65) (R (.bool false) h64) (∃ (x70 : Int), Hp.cell h64 b34 0 = some (I x70) ∧ (∃ (s71 : Sl), Hp.cell h64 b34 1 = some s71.v ∧ (c_laws_markCnf #[(.agg #[(I x70), s71.v]), (I 1)] h64 fun v72 h73 => ∃ (x74 : Int), v72 = (I x74) ∧ (joinP (fun (c79 : Bool) (h80 : Hp) => bsplit c79 (R (.bool false) h80) (c_laws_markIntS #[s44.v, (I 1)] h80 fun v85 h86 => ∃ (x87 : Int), v85 = (I x87) ∧ (c_laws_heldIntS #[s44.v, (I 1)] h86 fun v90 h91 => ∃ (x92 : Int), v90 = (I x92) ∧ (bsplit (decide (x92 < 0)) (R (.bool false) h91) (bsplit (x92 != x87) (R (.bool false) h91) (∃ (x100 : Int), Hp.cell h91 b4 0 = some (I x100) ∧ (∃ (s101 : Sl), Hp.cell h91 b4 1 = some s101.v ∧ (c_laws_toCnf #[(.agg #[(I x100), s101.v])] h91 fun v102 h103 => ∃ (x104 : Int) (s105 : Sl), v102 = (.agg #[(I x104), s105.v]) ∧ (c_impl_SatCore #[(.agg #[(I x104), s105.v])] h103 fun v106 h107 => ∃ (s108 : Sl) (c109 : Bool), v106 = (.tuple #[s108.v, (.bool c109)]) ∧ (joinP (fun (c114 : Bool) (h115 : Hp) => bsplit c114 (R (.bool false) h115) (c_laws_heldIntS #[s44.v, (I 1)] h115 fun v120 h121 => ∃ (x122 : Int), v120 = (I x122) ∧ (bsplit (decide (x122 < 0)) (R (.bool false) h121) (bsplit (x122 != x87) (R (.bool false) h121) (R (.bool true) h121))))) fun J130 => c_laws_eqIntS #[s108.v, s25.v] h107 fun v111 h112 => ∃ (c113 : Bool), v111 = (.bool c113) ∧ (bsplit (!c113) (J130 true h112) (J130 (!(c109 == c26)) h112)))))))))))) fun J131 => bsplit (decide (x74 < 0)) (J131 true h73) (c_laws_eqIntS #[s44.v, s25.v] h73 fun v76 h77 => ∃ (c78 : Bool), v76 = (.bool c78) ∧ (bsplit (!c78) (J131 true h77) (J131 (!(c45 == c26)) h77)))))))))))))))) fun J132 => c_laws_eqIntS #[s44.v, s25.v] h43 fun v47 h48 => ∃ (c49 : Bool), v47 = (.bool c49) ∧ (bsplit (!c49) (J132 true h48) (J132 (!(c45 == c26)) h48))))))))))))))))
theorem E_laws_FnExactSatCore (x1 : Int) (s2 : Sl) (h : Hp) (R : Value → Hp → Prop) : ABd PR Try.f6 A_laws_FnExactSatCore #[(.agg #[(I x1), s2.v])] h R = F_laws_FnExactSatCore x1 s2 h R := by kernel_rfl
theorem O_laws_FnExactSatCore : okF PR 6 = true := by kernel_rfl
theorem B_laws_FnExactSatCore : Try.f6.body.isSome = true := by kernel_rfl
theorem R_laws_FnExactSatCore {x1 : Int} {s2 : Sl} {h : Hp} {R : Value → Hp → Prop} (e : F_laws_FnExactSatCore x1 s2 h R) : c_laws_FnExactSatCore #[(.agg #[(I x1), s2.v])] h R :=
  acalls mixed Try.func6 B_laws_FnExactSatCore O_laws_FnExactSatCore A_laws_FnExactSatCore (by kernel_rfl) ((E_laws_FnExactSatCore x1 s2 h R).mpr e)

end Go.Lead
