/- The walks of the functions, part 1, written by a program: what the abstract walk of each body comes to. No statement is proved here. -/
import Derived.Test.YthgleoodmgophaaFn
set_option maxRecDepth 100000
set_option linter.unusedVariables false
namespace Go.Lead
open Go Go.Proofs

def A_spec_l1Bit : Ann := fun r => []
def F_spec_l1Bit (x1 : Int) (x2 : Int) (h : Hp) (R : Value → Hp → Prop) : Prop :=
  if (IntKind.wrap .u64 (x2)) < 0 then False else (R (I (Int.tmod (shrW x1 (IntKind.wrap .u64 (x2))) 2)) h)
theorem E_spec_l1Bit (x1 : Int) (x2 : Int) (h : Hp) (R : Value → Hp → Prop) : ABd PR Try.f115 A_spec_l1Bit #[(I x1), (I x2)] h R = F_spec_l1Bit x1 x2 h R := by kernel_rfl
theorem O_spec_l1Bit : okF PR 115 = true := by kernel_rfl
theorem B_spec_l1Bit : Try.f115.body.isSome = true := by kernel_rfl
theorem R_spec_l1Bit {x1 : Int} {x2 : Int} {h : Hp} {R : Value → Hp → Prop} (e : F_spec_l1Bit x1 x2 h R) : c_spec_l1Bit #[(I x1), (I x2)] h R :=
  acalls mixed Try.func115 B_spec_l1Bit O_spec_l1Bit A_spec_l1Bit (by kernel_rfl) ((E_spec_l1Bit x1 x2 h R).mpr e)

def A_spec_l10True : Ann := fun r => []
def F_spec_l10True (x1 : Int) (x2 : Int) (h : Hp) (R : Value → Hp → Prop) : Prop :=
  bsplit (decide (x1 > 0)) (c_spec_l1Bit #[(I x2), (I (W (x1 - 1)))] h fun v7 h8 => ∃ (x9 : Int), v7 = (I x9) ∧ (R (.bool (x9 == 1)) h8)) (c_spec_l1Bit #[(I x2), (I (W ((W (0 - x1)) - 1)))] h fun v11 h12 => ∃ (x13 : Int), v11 = (I x13) ∧ (R (.bool (x13 == 0)) h12))
theorem E_spec_l10True (x1 : Int) (x2 : Int) (h : Hp) (R : Value → Hp → Prop) : ABd PR Try.f113 A_spec_l10True #[(I x1), (I x2)] h R = F_spec_l10True x1 x2 h R := by kernel_rfl
theorem O_spec_l10True : okF PR 113 = true := by kernel_rfl
theorem B_spec_l10True : Try.f113.body.isSome = true := by kernel_rfl
theorem R_spec_l10True {x1 : Int} {x2 : Int} {h : Hp} {R : Value → Hp → Prop} (e : F_spec_l10True x1 x2 h R) : c_spec_l10True #[(I x1), (I x2)] h R :=
  acalls mixed Try.func113 B_spec_l10True O_spec_l10True A_spec_l10True (by kernel_rfl) ((E_spec_l10True x1 x2 h R).mpr e)

def A_spec_l10Any : Ann := fun r => if r = 2 then [(0, .slice 0), (1, .int .i64), (5, .int .i64)] else []
def F_spec_l10Any (s1 : Sl) (x2 : Int) (h : Hp) (R : Value → Hp → Prop) : Prop :=
  ALoop (fun vs7 h6 next8 => ∃ (s9 : Sl) (x10 : Int) (x11 : Int), vs7 = [s9.v, (I x10), (I x11)] ∧ (bsplit (decide (x11 < ((s9.n : Nat) : Int))) (∃ b16 o17 : Nat, s9.a = some (Addr.mk b16 o17 none) ∧ (0 : Int) ≤ x11 ∧ x11 < ((s9.n : Nat) : Int) ∧ (∃ (x18 : Int), Hp.cell h6 b16 (o17 + Int.toNat x11 * 1) = some (I x18) ∧ (c_spec_l10True #[(I x18), (I x10)] h6 fun v19 h20 => ∃ (c21 : Bool), v19 = (.bool c21) ∧ (bsplit c21 (R (.bool true) h20) (next8 [s9.v, (I x10), (I (W (x11 + 1)))] h20))))) (R (.bool false) h6))) [s1.v, (I x2), (I 0)] h
theorem E_spec_l10Any (s1 : Sl) (x2 : Int) (h : Hp) (R : Value → Hp → Prop) : ABd PR Try.f106 A_spec_l10Any #[s1.v, (I x2)] h R = F_spec_l10Any s1 x2 h R := by kernel_rfl
theorem O_spec_l10Any : okF PR 106 = true := by kernel_rfl
theorem B_spec_l10Any : Try.f106.body.isSome = true := by kernel_rfl
theorem R_spec_l10Any {s1 : Sl} {x2 : Int} {h : Hp} {R : Value → Hp → Prop} (e : F_spec_l10Any s1 x2 h R) : c_spec_l10Any #[s1.v, (I x2)] h R :=
  acalls mixed Try.func106 B_spec_l10Any O_spec_l10Any A_spec_l10Any (by kernel_rfl) ((E_spec_l10Any s1 x2 h R).mpr e)

def A_spec_l10All : Ann := fun r => if r = 2 then [(1, .slice 0), (2, .int .i64), (3, .unsafePointer), (7, .int .i64)] else []
def F_spec_l10All (x1 : Int) (s2 : Sl) (s3 : Sl) (x4 : Int) (h : Hp) (R : Value → Hp → Prop) : Prop :=
  ∀ b6 : Nat, h b6 = none → setH (h.row b6 [(I x1), s2.v] 2) fun h7 => ALoop (fun vs11 h10 next12 => ∃ (s13 : Sl) (x14 : Int) (b15 o16 : Nat) (x17 : Int), vs11 = [s13.v, (I x14), (.pointer (some (Addr.mk b15 o16 none))), (I x17)] ∧ (∃ (s19 : Sl), Hp.cell h10 b15 (o16 + 1) = some s19.v ∧ (bsplit (decide (x17 < ((s19.n : Nat) : Int))) (joinP (fun (c32 : Bool) (h33 : Hp) => bsplit c32 (R (.bool false) h33) (next12 [s13.v, (I x14), (.pointer (some (Addr.mk b15 o16 none))), (I (W (x17 + 1)))] h33)) fun J37 => ∃ b22 o23 : Nat, s13.a = some (Addr.mk b22 o23 none) ∧ (0 : Int) ≤ x17 ∧ x17 < ((s13.n : Nat) : Int) ∧ (∃ (c24 : Bool), Hp.cell h10 b22 (o23 + Int.toNat x17 * 1) = some (.bool c24) ∧ (bsplit c24 (∃ (s25 : Sl), Hp.cell h10 b15 (o16 + 1) = some s25.v ∧ (∃ b26 o27 : Nat, s25.a = some (Addr.mk b26 o27 none) ∧ (0 : Int) ≤ x17 ∧ x17 < ((s25.n : Nat) : Int) ∧ (∃ (s28 : Sl), Hp.cell h10 b26 (o27 + Int.toNat x17 * 1) = some s28.v ∧ (c_spec_l10Any #[s28.v, (I x14)] h10 fun v29 h30 => ∃ (c31 : Bool), v29 = (.bool c31) ∧ (J37 (!c31) h30))))) (J37 false h10)))) (R (.bool true) h10)))) [s3.v, (I x4), (.pointer (some (Addr.mk b6 0 none))), (I 0)] h7
theorem E_spec_l10All (x1 : Int) (s2 : Sl) (s3 : Sl) (x4 : Int) (h : Hp) (R : Value → Hp → Prop) : ABd PR Try.f84 A_spec_l10All #[(.agg #[(I x1), s2.v]), s3.v, (I x4)] h R = F_spec_l10All x1 s2 s3 x4 h R := by kernel_rfl
theorem O_spec_l10All : okF PR 84 = true := by kernel_rfl
theorem B_spec_l10All : Try.f84.body.isSome = true := by kernel_rfl
theorem R_spec_l10All {x1 : Int} {s2 : Sl} {s3 : Sl} {x4 : Int} {h : Hp} {R : Value → Hp → Prop} (e : F_spec_l10All x1 s2 s3 x4 h R) : c_spec_l10All #[(.agg #[(I x1), s2.v]), s3.v, (I x4)] h R :=
  acalls mixed Try.func84 B_spec_l10All O_spec_l10All A_spec_l10All (by kernel_rfl) ((E_spec_l10All x1 s2 s3 x4 h R).mpr e)

def A_laws_szIntS : Ann := fun r => []
def F_laws_szIntS (s1 : Sl) (x2 : Int) (h : Hp) (R : Value → Hp → Prop) : Prop :=
  bsplit (decide ((W (x2 - ((s1.n : Nat) : Int))) < 0)) (R (I (-1)) h) (R (I (W (x2 - ((s1.n : Nat) : Int)))) h)
theorem E_laws_szIntS (s1 : Sl) (x2 : Int) (h : Hp) (R : Value → Hp → Prop) : ABd PR Try.f76 A_laws_szIntS #[s1.v, (I x2)] h R = F_laws_szIntS s1 x2 h R := by kernel_rfl
theorem O_laws_szIntS : okF PR 76 = true := by kernel_rfl
theorem B_laws_szIntS : Try.f76.body.isSome = true := by kernel_rfl
theorem R_laws_szIntS {s1 : Sl} {x2 : Int} {h : Hp} {R : Value → Hp → Prop} (e : F_laws_szIntS s1 x2 h R) : c_laws_szIntS #[s1.v, (I x2)] h R :=
  acalls mixed Try.func76 B_laws_szIntS O_laws_szIntS A_laws_szIntS (by kernel_rfl) ((E_laws_szIntS s1 x2 h R).mpr e)

def A_laws_szIntSS : Ann := fun r => if r = 5 then [(0, .slice 0), (1, .int .i64), (5, .int .i64)] else []
def F_laws_szIntSS (s1 : Sl) (x2 : Int) (h : Hp) (R : Value → Hp → Prop) : Prop :=
  bsplit (decide ((W (x2 - ((s1.n : Nat) : Int))) < 0)) (R (I (-1)) h) (ALoop (fun vs11 h10 next12 => ∃ (s13 : Sl) (x14 : Int) (x15 : Int), vs11 = [s13.v, (I x14), (I x15)] ∧ (bsplit (decide (x15 < ((s13.n : Nat) : Int))) (∃ b20 o21 : Nat, s13.a = some (Addr.mk b20 o21 none) ∧ (0 : Int) ≤ x15 ∧ x15 < ((s13.n : Nat) : Int) ∧ (∃ (s22 : Sl), Hp.cell h10 b20 (o21 + Int.toNat x15 * 1) = some s22.v ∧ (c_laws_szIntS #[s22.v, (I x14)] h10 fun v23 h24 => ∃ (x25 : Int), v23 = (I x25) ∧ (bsplit (decide (x25 < 0)) (R (I (-1)) h24) (next12 [s13.v, (I x25), (I (W (x15 + 1)))] h24))))) (R (I x14) h10))) [s1.v, (I (W (x2 - ((s1.n : Nat) : Int)))), (I 0)] h)
theorem E_laws_szIntSS (s1 : Sl) (x2 : Int) (h : Hp) (R : Value → Hp → Prop) : ABd PR Try.f36 A_laws_szIntSS #[s1.v, (I x2)] h R = F_laws_szIntSS s1 x2 h R := by kernel_rfl
theorem O_laws_szIntSS : okF PR 36 = true := by kernel_rfl
theorem B_laws_szIntSS : Try.f36.body.isSome = true := by kernel_rfl
theorem R_laws_szIntSS {s1 : Sl} {x2 : Int} {h : Hp} {R : Value → Hp → Prop} (e : F_laws_szIntSS s1 x2 h R) : c_laws_szIntSS #[s1.v, (I x2)] h R :=
  acalls mixed Try.func36 B_laws_szIntSS O_laws_szIntSS A_laws_szIntSS (by kernel_rfl) ((E_laws_szIntSS s1 x2 h R).mpr e)

def A_laws_szCnf : Ann := fun r => []
def F_laws_szCnf (x1 : Int) (s2 : Sl) (x3 : Int) (h : Hp) (R : Value → Hp → Prop) : Prop :=
  ∀ b5 : Nat, h b5 = none → setH (h.row b5 [(I x1), s2.v] 2) fun h6 => ∃ (s8 : Sl), Hp.cell h6 b5 1 = some s8.v ∧ (c_laws_szIntSS #[s8.v, (I x3)] h6 fun v9 h10 => ∃ (x11 : Int), v9 = (I x11) ∧ (bsplit (decide (x11 < 0)) (R (I (-1)) h10) (R (I x11) h10)))
theorem E_laws_szCnf (x1 : Int) (s2 : Sl) (x3 : Int) (h : Hp) (R : Value → Hp → Prop) : ABd PR Try.f29 A_laws_szCnf #[(.agg #[(I x1), s2.v]), (I x3)] h R = F_laws_szCnf x1 s2 x3 h R := by kernel_rfl
theorem O_laws_szCnf : okF PR 29 = true := by kernel_rfl
theorem B_laws_szCnf : Try.f29.body.isSome = true := by kernel_rfl
theorem R_laws_szCnf {x1 : Int} {s2 : Sl} {x3 : Int} {h : Hp} {R : Value → Hp → Prop} (e : F_laws_szCnf x1 s2 x3 h R) : c_laws_szCnf #[(.agg #[(I x1), s2.v]), (I x3)] h R :=
  acalls mixed Try.func29 B_laws_szCnf O_laws_szCnf A_laws_szCnf (by kernel_rfl) ((E_laws_szCnf x1 s2 x3 h R).mpr e)

def A_laws_toIntSS : Ann := fun r => if r = 3 then [(0, .slice 0), (3, .slice 0), (4, .int .i64)] else []
def F_laws_toIntSS (s1 : Sl) (h : Hp) (R : Value → Hp → Prop) : Prop :=
  (0 : Int) ≤ ((s1.n : Nat) : Int) ∧ ((s1.n : Nat) : Int) ≤ ((s1.n : Nat) : Int) ∧ ((s1.n : Nat) : Int) * ((24 : Nat) : Int) ≤ 140737488355328 ∧ ((s1.n : Nat) : Int) ≤ 9223372036854775807 ∧ ∀ b4 : Nat, h b4 = none → setH (h.row b4 (zeroRow #[(.slice none 0 0)] (Int.toNat ((s1.n : Nat) : Int) * 1)) (Int.toNat ((s1.n : Nat) : Int) * 1)) fun h5 => ALoop (fun vs9 h8 next10 => ∃ (s11 : Sl) (s12 : Sl) (x13 : Int), vs9 = [s11.v, s12.v, (I x13)] ∧ (bsplit (decide (x13 < ((s11.n : Nat) : Int))) (∃ b18 o19 : Nat, s11.a = some (Addr.mk b18 o19 none) ∧ (0 : Int) ≤ x13 ∧ x13 < ((s11.n : Nat) : Int) ∧ (∃ (s20 : Sl), Hp.cell h8 b18 (o19 + Int.toNat x13 * 1) = some s20.v ∧ (c_laws_toIntS #[s20.v] h8 fun v21 h22 => ∃ (s23 : Sl), v21 = s23.v ∧ (∃ b24 o25 : Nat, s12.a = some (Addr.mk b24 o25 none) ∧ (0 : Int) ≤ x13 ∧ x13 < ((s12.n : Nat) : Int) ∧ (∃ (cs26 : List Value) (z27 : Nat), h22 b24 = some (.inl ⟨cs26, z27, false⟩) ∧ (o25 + Int.toNat x13 * 1) + 1 ≤ List.length cs26 ∧ setH (h22.row b24 (lset cs26 (o25 + Int.toNat x13 * 1) [s23.v]) z27) fun h28 => next10 [s11.v, s12.v, (I (W (x13 + 1)))] h28))))) (R s12.v h8))) [s1.v, (.slice (some (Addr.mk b4 0 none)) (Int.toNat ((s1.n : Nat) : Int)) (Int.toNat ((s1.n : Nat) : Int))), (I 0)] h5
theorem E_laws_toIntSS (s1 : Sl) (h : Hp) (R : Value → Hp → Prop) : ABd PR Try.f38 A_laws_toIntSS #[s1.v] h R = F_laws_toIntSS s1 h R := by kernel_rfl
theorem O_laws_toIntSS : okF PR 38 = true := by kernel_rfl
theorem B_laws_toIntSS : Try.f38.body.isSome = true := by kernel_rfl
theorem R_laws_toIntSS {s1 : Sl} {h : Hp} {R : Value → Hp → Prop} (e : F_laws_toIntSS s1 h R) : c_laws_toIntSS #[s1.v] h R :=
  acalls mixed Try.func38 B_laws_toIntSS O_laws_toIntSS A_laws_toIntSS (by kernel_rfl) ((E_laws_toIntSS s1 h R).mpr e)

def A_laws_toCnf : Ann := fun r => []
def F_laws_toCnf (x1 : Int) (s2 : Sl) (h : Hp) (R : Value → Hp → Prop) : Prop :=
  ∀ b4 : Nat, h b4 = none → setH (h.row b4 [(I x1), s2.v] 2) fun h5 => ∀ b6 : Nat, h5 b6 = none → setH (h5.row b6 [(I 0), (.slice none 0 0)] 2) fun h7 => ∀ b9 : Nat, h7 b9 = none → setH (h7.row b9 [(I 0), (.slice none 0 0)] 2) fun h10 => ∃ (x12 : Int), Hp.cell h10 b4 0 = some (I x12) ∧ (∃ (cs13 : List Value) (z14 : Nat), h10 b9 = some (.inl ⟨cs13, z14, false⟩) ∧ 0 + 1 ≤ List.length cs13 ∧ setH (h10.row b9 (lset cs13 0 [(I x12)]) z14) fun h15 => ∃ (s17 : Sl), Hp.cell h15 b4 1 = some s17.v ∧ (c_laws_toIntSS #[s17.v] h15 fun v18 h19 => ∃ (s20 : Sl), v18 = s20.v ∧ (∃ (cs21 : List Value) (z22 : Nat), h19 b9 = some (.inl ⟨cs21, z22, false⟩) ∧ 1 + 1 ≤ List.length cs21 ∧ setH (h19.row b9 (lset cs21 1 [s20.v]) z22) fun h23 => ∃ (x25 : Int), Hp.cell h23 b9 0 = some (I x25) ∧ (∃ (s26 : Sl), Hp.cell h23 b9 1 = some s26.v ∧ (∃ (cs27 : List Value) (z28 : Nat), h23 b6 = some (.inl ⟨cs27, z28, false⟩) ∧ 0 + 2 ≤ List.length cs27 ∧ setH (h23.row b6 (lset cs27 0 [(I x25), s26.v]) z28) fun h29 => ∃ (x30 : Int), Hp.cell h29 b6 0 = some (I x30) ∧ (∃ (s31 : Sl), Hp.cell h29 b6 1 = some s31.v ∧ (R (.agg #[(I x30), s31.v]) h29)))))))
theorem E_laws_toCnf (x1 : Int) (s2 : Sl) (h : Hp) (R : Value → Hp → Prop) : ABd PR Try.f31 A_laws_toCnf #[(.agg #[(I x1), s2.v])] h R = F_laws_toCnf x1 s2 h R := by kernel_rfl
theorem O_laws_toCnf : okF PR 31 = true := by kernel_rfl
theorem B_laws_toCnf : Try.f31.body.isSome = true := by kernel_rfl
theorem R_laws_toCnf {x1 : Int} {s2 : Sl} {h : Hp} {R : Value → Hp → Prop} (e : F_laws_toCnf x1 s2 h R) : c_laws_toCnf #[(.agg #[(I x1), s2.v])] h R :=
  acalls mixed Try.func31 B_laws_toCnf O_laws_toCnf A_laws_toCnf (by kernel_rfl) ((E_laws_toCnf x1 s2 h R).mpr e)

def A_laws_eqIntSS : Ann := fun r => if r = 4 then [(0, .slice 0), (1, .slice 0), (5, .int .i64)] else []
def F_laws_eqIntSS (s1 : Sl) (s2 : Sl) (h : Hp) (R : Value → Hp → Prop) : Prop :=
  bsplit (((s1.n : Nat) : Int) != ((s2.n : Nat) : Int)) (R (.bool false) h) (ALoop (fun vs10 h9 next11 => ∃ (s12 : Sl) (s13 : Sl) (x14 : Int), vs10 = [s12.v, s13.v, (I x14)] ∧ (bsplit (decide (x14 < ((s12.n : Nat) : Int))) (∃ b19 o20 : Nat, s12.a = some (Addr.mk b19 o20 none) ∧ (0 : Int) ≤ x14 ∧ x14 < ((s12.n : Nat) : Int) ∧ (∃ b21 o22 : Nat, s13.a = some (Addr.mk b21 o22 none) ∧ (0 : Int) ≤ x14 ∧ x14 < ((s13.n : Nat) : Int) ∧ (∃ (s23 : Sl), Hp.cell h9 b19 (o20 + Int.toNat x14 * 1) = some s23.v ∧ (∃ (s24 : Sl), Hp.cell h9 b21 (o22 + Int.toNat x14 * 1) = some s24.v ∧ (c_laws_eqIntS #[s23.v, s24.v] h9 fun v25 h26 => ∃ (c27 : Bool), v25 = (.bool c27) ∧ (bsplit (!c27) (R (.bool false) h26) (next11 [s12.v, s13.v, (I (W (x14 + 1)))] h26))))))) (R (.bool true) h9))) [s1.v, s2.v, (I 0)] h)
theorem E_laws_eqIntSS (s1 : Sl) (s2 : Sl) (h : Hp) (R : Value → Hp → Prop) : ABd PR Try.f40 A_laws_eqIntSS #[s1.v, s2.v] h R = F_laws_eqIntSS s1 s2 h R := by kernel_rfl
theorem O_laws_eqIntSS : okF PR 40 = true := by kernel_rfl
theorem B_laws_eqIntSS : Try.f40.body.isSome = true := by kernel_rfl
theorem R_laws_eqIntSS {s1 : Sl} {s2 : Sl} {h : Hp} {R : Value → Hp → Prop} (e : F_laws_eqIntSS s1 s2 h R) : c_laws_eqIntSS #[s1.v, s2.v] h R :=
  acalls mixed Try.func40 B_laws_eqIntSS O_laws_eqIntSS A_laws_eqIntSS (by kernel_rfl) ((E_laws_eqIntSS s1 s2 h R).mpr e)

def A_laws_eqCnf : Ann := fun r => []
def F_laws_eqCnf (x1 : Int) (s2 : Sl) (x3 : Int) (s4 : Sl) (h : Hp) (R : Value → Hp → Prop) : Prop :=
  ∀ b6 : Nat, h b6 = none → setH (h.row b6 [(I x1), s2.v] 2) fun h7 => ∀ b8 : Nat, h7 b8 = none → setH (h7.row b8 [(I x3), s4.v] 2) fun h9 => ∃ (x11 : Int), Hp.cell h9 b6 0 = some (I x11) ∧ (∃ (x12 : Int), Hp.cell h9 b8 0 = some (I x12) ∧ (bsplit (x11 != x12) (R (.bool false) h9) (∃ (s16 : Sl), Hp.cell h9 b6 1 = some s16.v ∧ (∃ (s17 : Sl), Hp.cell h9 b8 1 = some s17.v ∧ (c_laws_eqIntSS #[s16.v, s17.v] h9 fun v18 h19 => ∃ (c20 : Bool), v18 = (.bool c20) ∧ (bsplit (!c20) (R (.bool false) h19) (R (.bool true) h19)))))))
theorem E_laws_eqCnf (x1 : Int) (s2 : Sl) (x3 : Int) (s4 : Sl) (h : Hp) (R : Value → Hp → Prop) : ABd PR Try.f33 A_laws_eqCnf #[(.agg #[(I x1), s2.v]), (.agg #[(I x3), s4.v])] h R = F_laws_eqCnf x1 s2 x3 s4 h R := by kernel_rfl
theorem O_laws_eqCnf : okF PR 33 = true := by kernel_rfl
theorem B_laws_eqCnf : Try.f33.body.isSome = true := by kernel_rfl
theorem R_laws_eqCnf {x1 : Int} {s2 : Sl} {x3 : Int} {s4 : Sl} {h : Hp} {R : Value → Hp → Prop} (e : F_laws_eqCnf x1 s2 x3 s4 h R) : c_laws_eqCnf #[(.agg #[(I x1), s2.v]), (.agg #[(I x3), s4.v])] h R :=
  acalls mixed Try.func33 B_laws_eqCnf O_laws_eqCnf A_laws_eqCnf (by kernel_rfl) ((E_laws_eqCnf x1 s2 x3 s4 h R).mpr e)

def A_laws_markIntSS : Ann := fun r => if r = 2 then [(0, .slice 0), (1, .int .i64), (5, .int .i64)] else []
def F_laws_markIntSS (s1 : Sl) (x2 : Int) (h : Hp) (R : Value → Hp → Prop) : Prop :=
  ALoop (fun vs7 h6 next8 => ∃ (s9 : Sl) (x10 : Int) (x11 : Int), vs7 = [s9.v, (I x10), (I x11)] ∧ (bsplit (decide (x11 < ((s9.n : Nat) : Int))) (∃ b16 o17 : Nat, s9.a = some (Addr.mk b16 o17 none) ∧ (0 : Int) ≤ x11 ∧ x11 < ((s9.n : Nat) : Int) ∧ (∃ (s18 : Sl), Hp.cell h6 b16 (o17 + Int.toNat x11 * 1) = some s18.v ∧ (c_laws_markIntS #[s18.v, (I x10)] h6 fun v19 h20 => ∃ (x21 : Int), v19 = (I x21) ∧ (next8 [s9.v, (I x21), (I (W (x11 + 1)))] h20)))) (R (I x10) h6))) [s1.v, (I x2), (I 0)] h
theorem E_laws_markIntSS (s1 : Sl) (x2 : Int) (h : Hp) (R : Value → Hp → Prop) : ABd PR Try.f45 A_laws_markIntSS #[s1.v, (I x2)] h R = F_laws_markIntSS s1 x2 h R := by kernel_rfl
theorem O_laws_markIntSS : okF PR 45 = true := by kernel_rfl
theorem B_laws_markIntSS : Try.f45.body.isSome = true := by kernel_rfl
theorem R_laws_markIntSS {s1 : Sl} {x2 : Int} {h : Hp} {R : Value → Hp → Prop} (e : F_laws_markIntSS s1 x2 h R) : c_laws_markIntSS #[s1.v, (I x2)] h R :=
  acalls mixed Try.func45 B_laws_markIntSS O_laws_markIntSS A_laws_markIntSS (by kernel_rfl) ((E_laws_markIntSS s1 x2 h R).mpr e)

def A_laws_markCnf : Ann := fun r => []
def F_laws_markCnf (x1 : Int) (s2 : Sl) (x3 : Int) (h : Hp) (R : Value → Hp → Prop) : Prop :=
  ∀ b5 : Nat, h b5 = none → setH (h.row b5 [(I x1), s2.v] 2) fun h6 => ∃ (s8 : Sl), Hp.cell h6 b5 1 = some s8.v ∧ (c_laws_markIntSS #[s8.v, (I x3)] h6 fun v9 h10 => ∃ (x11 : Int), v9 = (I x11) ∧ (R (I x11) h10))
theorem E_laws_markCnf (x1 : Int) (s2 : Sl) (x3 : Int) (h : Hp) (R : Value → Hp → Prop) : ABd PR Try.f34 A_laws_markCnf #[(.agg #[(I x1), s2.v]), (I x3)] h R = F_laws_markCnf x1 s2 x3 h R := by kernel_rfl
theorem O_laws_markCnf : okF PR 34 = true := by kernel_rfl
theorem B_laws_markCnf : Try.f34.body.isSome = true := by kernel_rfl
theorem R_laws_markCnf {x1 : Int} {s2 : Sl} {x3 : Int} {h : Hp} {R : Value → Hp → Prop} (e : F_laws_markCnf x1 s2 x3 h R) : c_laws_markCnf #[(.agg #[(I x1), s2.v]), (I x3)] h R :=
  acalls mixed Try.func34 B_laws_markCnf O_laws_markCnf A_laws_markCnf (by kernel_rfl) ((E_laws_markCnf x1 s2 x3 h R).mpr e)

def A_spec_CnfSet : Ann := fun r => if r = 5 then [(1, .unsafePointer), (2, .unsafePointer), (4, .slice 0), (5, .int .i64)] else []
def F_spec_CnfSet (x1 : Int) (s2 : Sl) (h : Hp) (R : Value → Hp → Prop) : Prop :=
  ∀ b4 : Nat, h b4 = none → setH (h.row b4 [(I x1), s2.v] 2) fun h5 => ∀ b6 : Nat, h5 b6 = none → setH (h5.row b6 [(I 0), (.slice none 0 0), (I 0)] 3) fun h7 => ∃ (x9 : Int), Hp.cell h7 b4 0 = some (I x9) ∧ (∃ (s10 : Sl), Hp.cell h7 b4 1 = some s10.v ∧ (c_spec_CnfOk #[(.agg #[(I x9), s10.v])] h7 fun v11 h12 => ∃ (c13 : Bool), v11 = (.bool c13) ∧ (bsplit (!c13) (∃ (cs16 : List Value) (z17 : Nat), h12 b6 = some (.inl ⟨cs16, z17, false⟩) ∧ 0 + 3 ≤ List.length cs16 ∧ setH (h12.row b6 (lset cs16 0 [(I 0), (.slice none 0 0), (I 0)]) z17) fun h18 => ∃ (x19 : Int), Hp.cell h18 b6 0 = some (I x19) ∧ (∃ (s20 : Sl), Hp.cell h18 b6 1 = some s20.v ∧ (∃ (x21 : Int), Hp.cell h18 b6 2 = some (I x21) ∧ (R (.tuple #[(.agg #[(I x19), s20.v, (I x21)]), (.bool false)]) h18)))) (∃ (x23 : Int), Hp.cell h12 b4 0 = some (I x23) ∧ (if (IntKind.wrap .u64 (x23)) < 0 then False else ((0 : Int) ≤ (shlW 1 (IntKind.wrap .u64 (x23))) ∧ (shlW 1 (IntKind.wrap .u64 (x23))) ≤ (shlW 1 (IntKind.wrap .u64 (x23))) ∧ (shlW 1 (IntKind.wrap .u64 (x23))) * ((1 : Nat) : Int) ≤ 140737488355328 ∧ (shlW 1 (IntKind.wrap .u64 (x23))) ≤ 9223372036854775807 ∧ ∀ b24 : Nat, h12 b24 = none → setH (h12.row b24 (zeroRow #[(.bool false)] (Int.toNat (shlW 1 (IntKind.wrap .u64 (x23))) * 1)) (Int.toNat (shlW 1 (IntKind.wrap .u64 (x23))) * 1)) fun h25 => ALoop (fun vs29 h28 next30 => ∃ (b31 o32 : Nat) (b33 o34 : Nat) (s35 : Sl) (x36 : Int), vs29 = [(.pointer (some (Addr.mk b31 o32 none))), (.pointer (some (Addr.mk b33 o34 none))), s35.v, (I x36)] ∧ (bsplit (decide (x36 < ((s35.n : Nat) : Int))) (∃ (x41 : Int), Hp.cell h28 b31 o32 = some (I x41) ∧ (∃ (s42 : Sl), Hp.cell h28 b31 (o32 + 1) = some s42.v ∧ (∃ (x43 : Int), Hp.cell h28 b31 o32 = some (I x43) ∧ (∃ (s44 : Sl), Hp.cell h28 b31 (o32 + 1) = some s44.v ∧ (c_spec_l10Every #[(.agg #[(I x43), s44.v])] h28 fun v45 h46 => ∃ (s47 : Sl), v45 = s47.v ∧ (h46 b31 = h28 b31 ∧ (c_spec_l10All #[(.agg #[(I x41), s42.v]), s47.v, (I x36)] h46 fun v48 h49 => ∃ (c50 : Bool), v48 = (.bool c50) ∧ (∃ b51 o52 : Nat, s35.a = some (Addr.mk b51 o52 none) ∧ (0 : Int) ≤ x36 ∧ x36 < ((s35.n : Nat) : Int) ∧ (∃ (cs53 : List Value) (z54 : Nat), h49 b51 = some (.inl ⟨cs53, z54, false⟩) ∧ (o52 + Int.toNat x36 * 1) + 1 ≤ List.length cs53 ∧ setH (h49.row b51 (lset cs53 (o52 + Int.toNat x36 * 1) [(.bool c50)]) z54) fun h55 => next30 [(.pointer (some (Addr.mk b31 o32 none))), (.pointer (some (Addr.mk b33 o34 none))), s35.v, (I (W (x36 + 1)))] h55))))))))) (∃ (x58 : Int), Hp.cell h28 b31 o32 = some (I x58) ∧ (c_spec_l7Of #[(I x58), s35.v] h28 fun v59 h60 => ∃ (x61 : Int) (s62 : Sl) (x63 : Int) (c64 : Bool), v59 = (.tuple #[(.agg #[(I x61), s62.v, (I x63)]), (.bool c64)]) ∧ (∃ (cs65 : List Value) (z66 : Nat), h60 b33 = some (.inl ⟨cs65, z66, false⟩) ∧ o34 + 3 ≤ List.length cs65 ∧ setH (h60.row b33 (lset cs65 o34 [(I x61), s62.v, (I x63)]) z66) fun h67 => ∃ (x68 : Int), Hp.cell h67 b33 o34 = some (I x68) ∧ (∃ (s69 : Sl), Hp.cell h67 b33 (o34 + 1) = some s69.v ∧ (∃ (x70 : Int), Hp.cell h67 b33 (o34 + 2) = some (I x70) ∧ (R (.tuple #[(.agg #[(I x68), s69.v, (I x70)]), (.bool c64)]) h67)))))))) [(.pointer (some (Addr.mk b4 0 none))), (.pointer (some (Addr.mk b6 0 none))), (.slice (some (Addr.mk b24 0 none)) (Int.toNat (shlW 1 (IntKind.wrap .u64 (x23)))) (Int.toNat (shlW 1 (IntKind.wrap .u64 (x23))))), (I 0)] h25))))))
theorem E_spec_CnfSet (x1 : Int) (s2 : Sl) (h : Hp) (R : Value → Hp → Prop) : ABd PR Try.f47 A_spec_CnfSet #[(.agg #[(I x1), s2.v])] h R = F_spec_CnfSet x1 s2 h R := by kernel_rfl
theorem O_spec_CnfSet : okF PR 47 = true := by kernel_rfl
theorem B_spec_CnfSet : Try.f47.body.isSome = true := by kernel_rfl
theorem R_spec_CnfSet {x1 : Int} {s2 : Sl} {h : Hp} {R : Value → Hp → Prop} (e : F_spec_CnfSet x1 s2 h R) : c_spec_CnfSet #[(.agg #[(I x1), s2.v])] h R :=
  acalls mixed Try.func47 B_spec_CnfSet O_spec_CnfSet A_spec_CnfSet (by kernel_rfl) ((E_spec_CnfSet x1 s2 h R).mpr e)

def A_impl_bit : Ann := fun r => []
def F_impl_bit (c1 : Bool) (h : Hp) (R : Value → Hp → Prop) : Prop :=
  bsplit c1 (R (I 1) h) (R (I 0) h)
theorem E_impl_bit (c1 : Bool) (h : Hp) (R : Value → Hp → Prop) : ABd PR Try.f114 A_impl_bit #[(.bool c1)] h R = F_impl_bit c1 h R := by kernel_rfl
theorem O_impl_bit : okF PR 114 = true := by kernel_rfl
theorem B_impl_bit : Try.f114.body.isSome = true := by kernel_rfl
theorem R_impl_bit {c1 : Bool} {h : Hp} {R : Value → Hp → Prop} (e : F_impl_bit c1 h R) : c_impl_bit #[(.bool c1)] h R :=
  acalls mixed Try.func114 B_impl_bit O_impl_bit A_impl_bit (by kernel_rfl) ((E_impl_bit c1 h R).mpr e)

def A_impl_newTable : Ann := fun r => if r = 3 then [(1, .func #[] #[] false), (5, .slice 0), (11, .int .i64), (12, .int .i64)] else []
def F_impl_newTable (x1 : Int) (f2 : FuncId) (u3 w4 : Array Value) (h : Hp) (R : Value → Hp → Prop) : Prop :=
  if x1 < 0 then False else ((0 : Int) ≤ (shlW 1 x1) ∧ (shlW 1 x1) ≤ (shlW 1 x1) ∧ (shlW 1 x1) * ((1 : Nat) : Int) ≤ 140737488355328 ∧ (shlW 1 x1) ≤ 9223372036854775807 ∧ ∀ b7 : Nat, h b7 = none → setH (h.row b7 (zeroRow #[(.int .u8 0)] (Int.toNat (shlW 1 x1) * 1)) (Int.toNat (shlW 1 x1) * 1)) fun h8 => ALoop (fun vs12 h11 next13 => ∃ (f14 : FuncId) (u15 w16 : Array Value) (s17 : Sl) (x18 : Int) (x19 : Int), vs12 = [(.func (.func f14) u15 w16), s17.v, (I x18), (I x19)] ∧ (bsplit (decide (x19 < x18)) (ACalls PR f14 ((u15 ++ List.toArray [(I x19)]) ++ w16) h11 fun v25 h26 => ∃ (c27 : Bool), v25 = (.bool c27) ∧ (c_impl_bit #[(.bool c27)] h26 fun v28 h29 => ∃ (x30 : Int), v28 = (I x30) ∧ (∃ b31 o32 : Nat, s17.a = some (Addr.mk b31 o32 none) ∧ (0 : Int) ≤ x19 ∧ x19 < ((s17.n : Nat) : Int) ∧ (∃ (cs33 : List Value) (z34 : Nat), h29 b31 = some (.inl ⟨cs33, z34, false⟩) ∧ (o32 + Int.toNat x19 * 1) + 1 ≤ List.length cs33 ∧ setH (h29.row b31 (lset cs33 (o32 + Int.toNat x19 * 1) [(.int .u8 (IntKind.wrap .u8 (x30)))]) z34) fun h35 => next13 [(.func (.func f14) u15 w16), s17.v, (I x18), (I (W (x19 + 1)))] h35)))) (R s17.v h11))) [(.func (.func f2) u3 w4), (.slice (some (Addr.mk b7 0 none)) (Int.toNat (shlW 1 x1)) (Int.toNat (shlW 1 x1))), (I (((Int.toNat (shlW 1 x1)) : Nat) : Int)), (I 0)] h8)
theorem E_impl_newTable (x1 : Int) (f2 : FuncId) (u3 w4 : Array Value) (h : Hp) (R : Value → Hp → Prop) : ABd PR Try.f107 A_impl_newTable #[(I x1), (.func (.func f2) u3 w4)] h R = F_impl_newTable x1 f2 u3 w4 h R := by kernel_rfl
theorem O_impl_newTable : okF PR 107 = true := by kernel_rfl
theorem B_impl_newTable : Try.f107.body.isSome = true := by kernel_rfl
theorem R_impl_newTable {x1 : Int} {f2 : FuncId} {u3 w4 : Array Value} {h : Hp} {R : Value → Hp → Prop} (e : F_impl_newTable x1 f2 u3 w4 h R) : c_impl_newTable #[(I x1), (.func (.func f2) u3 w4)] h R :=
  acalls mixed Try.func107 B_impl_newTable O_impl_newTable A_impl_newTable (by kernel_rfl) ((E_impl_newTable x1 f2 u3 w4 h R).mpr e)

def A_impl_told : Ann := fun r => []
def F_impl_told (x1 : Int) (f2 : FuncId) (u3 w4 : Array Value) (h : Hp) (R : Value → Hp → Prop) : Prop :=
  ∀ b6 : Nat, h b6 = none → setH (h.row b6 [(I 0), (.slice none 0 0), (I 0)] 3) fun h7 => c_impl_isVars #[(I x1)] h7 fun v9 h10 => ∃ (c11 : Bool), v9 = (.bool c11) ∧ (bsplit (!c11) (∃ (cs14 : List Value) (z15 : Nat), h10 b6 = some (.inl ⟨cs14, z15, false⟩) ∧ 0 + 3 ≤ List.length cs14 ∧ setH (h10.row b6 (lset cs14 0 [(I 0), (.slice none 0 0), (I 0)]) z15) fun h16 => ∃ (x17 : Int), Hp.cell h16 b6 0 = some (I x17) ∧ (∃ (s18 : Sl), Hp.cell h16 b6 1 = some s18.v ∧ (∃ (x19 : Int), Hp.cell h16 b6 2 = some (I x19) ∧ (R (.tuple #[(.agg #[(I x17), s18.v, (I x19)]), (.bool false)]) h16)))) (c_impl_newTable #[(I x1), (.func (.func f2) u3 w4)] h10 fun v21 h22 => ∃ (s23 : Sl), v21 = s23.v ∧ (c_impl_table_diagram #[s23.v] h22 fun v24 h25 => ∃ (x26 : Int) (s27 : Sl) (x28 : Int) (c29 : Bool), v24 = (.tuple #[(.agg #[(I x26), s27.v, (I x28)]), (.bool c29)]) ∧ (∃ (cs30 : List Value) (z31 : Nat), h25 b6 = some (.inl ⟨cs30, z31, false⟩) ∧ 0 + 3 ≤ List.length cs30 ∧ setH (h25.row b6 (lset cs30 0 [(I x26), s27.v, (I x28)]) z31) fun h32 => ∃ (x33 : Int), Hp.cell h32 b6 0 = some (I x33) ∧ (∃ (s34 : Sl), Hp.cell h32 b6 1 = some s34.v ∧ (∃ (x35 : Int), Hp.cell h32 b6 2 = some (I x35) ∧ (R (.tuple #[(.agg #[(I x33), s34.v, (I x35)]), (.bool c29)]) h32)))))))
theorem E_impl_told (x1 : Int) (f2 : FuncId) (u3 w4 : Array Value) (h : Hp) (R : Value → Hp → Prop) : ABd PR Try.f85 A_impl_told #[(I x1), (.func (.func f2) u3 w4)] h R = F_impl_told x1 f2 u3 w4 h R := by kernel_rfl
theorem O_impl_told : okF PR 85 = true := by kernel_rfl
theorem B_impl_told : Try.f85.body.isSome = true := by kernel_rfl
theorem R_impl_told {x1 : Int} {f2 : FuncId} {u3 w4 : Array Value} {h : Hp} {R : Value → Hp → Prop} (e : F_impl_told x1 f2 u3 w4 h R) : c_impl_told #[(I x1), (.func (.func f2) u3 w4)] h R :=
  acalls mixed Try.func85 B_impl_told O_impl_told A_impl_told (by kernel_rfl) ((E_impl_told x1 f2 u3 w4 h R).mpr e)

def A_impl_CnfSet_d1 : Ann := fun r => []
def F_impl_CnfSet_d1 (x1 : Int) (b2 o3 : Nat) (h : Hp) (R : Value → Hp → Prop) : Prop :=
  ∃ (s6 : Sl), Hp.cell h b2 (o3 + 1) = some s6.v ∧ (c_impl_clausesHold #[s6.v, (I x1)] h fun v7 h8 => ∃ (c9 : Bool), v7 = (.bool c9) ∧ (R (.bool c9) h8))
theorem E_impl_CnfSet_d1 (x1 : Int) (b2 o3 : Nat) (h : Hp) (R : Value → Hp → Prop) : ABd PR Try.f86 A_impl_CnfSet_d1 #[(I x1), (.pointer (some (Addr.mk b2 o3 none)))] h R = F_impl_CnfSet_d1 x1 b2 o3 h R := by kernel_rfl
theorem O_impl_CnfSet_d1 : okF PR 86 = true := by kernel_rfl
theorem B_impl_CnfSet_d1 : Try.f86.body.isSome = true := by kernel_rfl
theorem R_impl_CnfSet_d1 {x1 : Int} {b2 o3 : Nat} {h : Hp} {R : Value → Hp → Prop} (e : F_impl_CnfSet_d1 x1 b2 o3 h R) : c_impl_CnfSet_d1 #[(I x1), (.pointer (some (Addr.mk b2 o3 none)))] h R :=
  acalls mixed Try.func86 B_impl_CnfSet_d1 O_impl_CnfSet_d1 A_impl_CnfSet_d1 (by kernel_rfl) ((E_impl_CnfSet_d1 x1 b2 o3 h R).mpr e)

def A_impl_CnfSet : Ann := fun r => []
def F_impl_CnfSet (x1 : Int) (s2 : Sl) (h : Hp) (R : Value → Hp → Prop) : Prop :=
  ∀ b4 : Nat, h b4 = none → setH (h.row b4 [(I x1), s2.v] 2) fun h5 => ∀ b6 : Nat, h5 b6 = none → setH (h5.row b6 [(I 0), (.slice none 0 0), (I 0)] 3) fun h7 => ∃ (x9 : Int), Hp.cell h7 b4 0 = some (I x9) ∧ (∃ (s10 : Sl), Hp.cell h7 b4 1 = some s10.v ∧ (c_impl_CnfOk #[(.agg #[(I x9), s10.v])] h7 fun v11 h12 => ∃ (c13 : Bool), v11 = (.bool c13) ∧ (bsplit (!c13) (∃ (cs16 : List Value) (z17 : Nat), h12 b6 = some (.inl ⟨cs16, z17, false⟩) ∧ 0 + 3 ≤ List.length cs16 ∧ setH (h12.row b6 (lset cs16 0 [(I 0), (.slice none 0 0), (I 0)]) z17) fun h18 => ∃ (x19 : Int), Hp.cell h18 b6 0 = some (I x19) ∧ (∃ (s20 : Sl), Hp.cell h18 b6 1 = some s20.v ∧ (∃ (x21 : Int), Hp.cell h18 b6 2 = some (I x21) ∧ (R (.tuple #[(.agg #[(I x19), s20.v, (I x21)]), (.bool false)]) h18)))) (∃ (x23 : Int), Hp.cell h12 b4 0 = some (I x23) ∧ (c_impl_told #[(I x23), (.func (.func i_impl_CnfSet_d1) #[] #[(.pointer (some (Addr.mk b4 0 none)))])] h12 fun v24 h25 => ∃ (x26 : Int) (s27 : Sl) (x28 : Int) (c29 : Bool), v24 = (.tuple #[(.agg #[(I x26), s27.v, (I x28)]), (.bool c29)]) ∧ (∃ (cs30 : List Value) (z31 : Nat), h25 b6 = some (.inl ⟨cs30, z31, false⟩) ∧ 0 + 3 ≤ List.length cs30 ∧ setH (h25.row b6 (lset cs30 0 [(I x26), s27.v, (I x28)]) z31) fun h32 => ∃ (x33 : Int), Hp.cell h32 b6 0 = some (I x33) ∧ (∃ (s34 : Sl), Hp.cell h32 b6 1 = some s34.v ∧ (∃ (x35 : Int), Hp.cell h32 b6 2 = some (I x35) ∧ (R (.tuple #[(.agg #[(I x33), s34.v, (I x35)]), (.bool c29)]) h32)))))))))
theorem E_impl_CnfSet (x1 : Int) (s2 : Sl) (h : Hp) (R : Value → Hp → Prop) : ABd PR Try.f48 A_impl_CnfSet #[(.agg #[(I x1), s2.v])] h R = F_impl_CnfSet x1 s2 h R := by kernel_rfl
theorem O_impl_CnfSet : okF PR 48 = true := by kernel_rfl
theorem B_impl_CnfSet : Try.f48.body.isSome = true := by kernel_rfl
theorem R_impl_CnfSet {x1 : Int} {s2 : Sl} {h : Hp} {R : Value → Hp → Prop} (e : F_impl_CnfSet x1 s2 h R) : c_impl_CnfSet #[(.agg #[(I x1), s2.v])] h R :=
  acalls mixed Try.func48 B_impl_CnfSet O_impl_CnfSet A_impl_CnfSet (by kernel_rfl) ((E_impl_CnfSet x1 s2 h R).mpr e)

def A_laws_FnExactCnfSet : Ann := fun r => []
def F_laws_FnExactCnfSet (x1 : Int) (s2 : Sl) (h : Hp) (R : Value → Hp → Prop) : Prop :=
  ∀ b4 : Nat, h b4 = none → setH (h.row b4 [(I x1), s2.v] 2) fun h5 => ∃ (x8 : Int), Hp.cell h5 b4 0 = some (I x8) ∧ (∃ (s9 : Sl), Hp.cell h5 b4 1 = some s9.v ∧ (c_laws_szCnf #[(.agg #[(I x8), s9.v]), (I 1048576)] h5 fun v10 h11 => ∃ (x12 : Int), v10 = (I x12) ∧ (bsplit (decide (x12 < 0)) (R (.bool true) h11) (∃ (x17 : Int), Hp.cell h11 b4 0 = some (I x17) ∧ (∃ (s18 : Sl), Hp.cell h11 b4 1 = some s18.v ∧ (c_laws_toCnf #[(.agg #[(I x17), s18.v])] h11 fun v19 h20 => ∃ (x21 : Int) (s22 : Sl), v19 = (.agg #[(I x21), s22.v]) ∧ (c_spec_CnfSet #[(.agg #[(I x21), s22.v])] h20 fun v23 h24 => ∃ (x25 : Int) (s26 : Sl) (x27 : Int) (c28 : Bool), v23 = (.tuple #[(.agg #[(I x25), s26.v, (I x27)]), (.bool c28)]) ∧ (∀ b29 : Nat, h24 b29 = none → setH (h24.row b29 [(I 0), (.slice none 0 0), (I 0)] 3) fun h30 => ∃ (cs31 : List Value) (z32 : Nat), h30 b29 = some (.inl ⟨cs31, z32, false⟩) ∧ 0 + 3 ≤ List.length cs31 ∧ setH (h30.row b29 (lset cs31 0 [(I x25), s26.v, (I x27)]) z32) fun h33 => ∃ (x35 : Int), Hp.cell h33 b4 0 = some (I x35) ∧ (∃ (s36 : Sl), Hp.cell h33 b4 1 = some s36.v ∧ (c_laws_toCnf #[(.agg #[(I x35), s36.v])] h33 fun v37 h38 => ∃ (x39 : Int) (s40 : Sl), v37 = (.agg #[(I x39), s40.v]) ∧ (∀ b41 : Nat, h38 b41 = none → setH (h38.row b41 [(I 0), (.slice none 0 0)] 2) fun h42 => ∃ (cs43 : List Value) (z44 : Nat), h42 b41 = some (.inl ⟨cs43, z44, false⟩) ∧ 0 + 2 ≤ List.length cs43 ∧ setH (h42.row b41 (lset cs43 0 [(I x39), s40.v]) z44) fun h45 => ∃ (x47 : Int), Hp.cell h45 b41 0 = some (I x47) ∧ (∃ (s48 : Sl), Hp.cell h45 b41 1 = some s48.v ∧ (c_impl_CnfSet #[(.agg #[(I x47), s48.v])] h45 fun v49 h50 => ∃ (x51 : Int) (s52 : Sl) (x53 : Int) (c54 : Bool), v49 = (.tuple #[(.agg #[(I x51), s52.v, (I x53)]), (.bool c54)]) ∧ (∀ b55 : Nat, h50 b55 = none → setH (h50.row b55 [(I 0), (.slice none 0 0), (I 0)] 3) fun h56 => ∃ (cs57 : List Value) (z58 : Nat), h56 b55 = some (.inl ⟨cs57, z58, false⟩) ∧ 0 + 3 ≤ List.length cs57 ∧ setH (h56.row b55 (lset cs57 0 [(I x51), s52.v, (I x53)]) z58) fun h59 => joinP (fun (c70 : Bool) (h71 : Hp) => bsplit c70 (R (.bool false) h71) (∃ (x75 : Int), Hp.cell h71 b41 0 = some (I x75) ∧ (∃ (s76 : Sl), Hp.cell h71 b41 1 = some s76.v ∧ (∃ (x77 : Int), Hp.cell h71 b4 0 = some (I x77) ∧ (∃ (s78 : Sl), Hp.cell h71 b4 1 = some s78.v ∧ (c_laws_toCnf #[(.agg #[(I x77), s78.v])] h71 fun v79 h80 => ∃ (x81 : Int) (s82 : Sl), v79 = (.agg #[(I x81), s82.v]) ∧ (h80 b41 = h71 b41 ∧ (c_laws_eqCnf #[(.agg #[(I x75), s76.v]), (.agg #[(I x81), s82.v])] h80 fun v83 h84 => ∃ (c85 : Bool), v83 = (.bool c85) ∧ (bsplit (!c85) (R (.bool false) h84) (∃ (x90 : Int), Hp.cell h84 b41 0 = some (I x90) ∧ (∃ (s91 : Sl), Hp.cell h84 b41 1 = some s91.v ∧ (c_laws_markCnf #[(.agg #[(I x90), s91.v]), (I 1)] h84 fun v92 h93 => ∃ (x94 : Int), v92 = (I x94) ∧ (joinP (fun (c105 : Bool) (h106 : Hp) => bsplit c105 (R (.bool false) h106) (∃ (x111 : Int), Hp.cell h106 b55 0 = some (I x111) ∧ (∃ (s112 : Sl), Hp.cell h106 b55 1 = some s112.v ∧ (∃ (x113 : Int), Hp.cell h106 b55 2 = some (I x113) ∧ (c_laws_markBdd #[(.agg #[(I x111), s112.v, (I x113)]), (I 1)] h106 fun v114 h115 => ∃ (x116 : Int), v114 = (I x116) ∧ (∃ (x119 : Int), Hp.cell h115 b55 0 = some (I x119) ∧ (∃ (s120 : Sl), Hp.cell h115 b55 1 = some s120.v ∧ (∃ (x121 : Int), Hp.cell h115 b55 2 = some (I x121) ∧ (c_laws_heldBdd #[(.agg #[(I x119), s120.v, (I x121)]), (I 1)] h115 fun v122 h123 => ∃ (x124 : Int), v122 = (I x124) ∧ (bsplit (decide (x124 < 0)) (R (.bool false) h123) (bsplit (x124 != x116) (R (.bool false) h123) (∃ (x132 : Int), Hp.cell h123 b4 0 = some (I x132) ∧ (∃ (s133 : Sl), Hp.cell h123 b4 1 = some s133.v ∧ (c_laws_toCnf #[(.agg #[(I x132), s133.v])] h123 fun v134 h135 => ∃ (x136 : Int) (s137 : Sl), v134 = (.agg #[(I x136), s137.v]) ∧ (c_impl_CnfSet #[(.agg #[(I x136), s137.v])] h135 fun v138 h139 => ∃ (x140 : Int) (s141 : Sl) (x142 : Int) (c143 : Bool), v138 = (.tuple #[(.agg #[(I x140), s141.v, (I x142)]), (.bool c143)]) ∧ (∀ b144 : Nat, h139 b144 = none → setH (h139.row b144 [(I 0), (.slice none 0 0), (I 0)] 3) fun h145 => ∃ (cs146 : List Value) (z147 : Nat), h145 b144 = some (.inl ⟨cs146, z147, false⟩) ∧ 0 + 3 ≤ List.length cs146 ∧ setH (h145.row b144 (lset cs146 0 [(I x140), s141.v, (I x142)]) z147) fun h148 => joinP (fun (c159 : Bool) (h160 : Hp) => bsplit c159 (R (.bool false) h160) (∃ (x165 : Int), Hp.cell h160 b55 0 = some (I x165) ∧ (∃ (s166 : Sl), Hp.cell h160 b55 1 = some s166.v ∧ (∃ (x167 : Int), Hp.cell h160 b55 2 = some (I x167) ∧ (c_laws_heldBdd #[(.agg #[(I x165), s166.v, (I x167)]), (I 1)] h160 fun v168 h169 => ∃ (x170 : Int), v168 = (I x170) ∧ (bsplit (decide (x170 < 0)) (R (.bool false) h169) (bsplit (x170 != x116) (R (.bool false) h169) (R (.bool true) h169)))))))) fun J178 => ∃ (x150 : Int), Hp.cell h148 b144 0 = some (I x150) ∧ (∃ (s151 : Sl), Hp.cell h148 b144 1 = some s151.v ∧ (∃ (x152 : Int), Hp.cell h148 b144 2 = some (I x152) ∧ (∃ (x153 : Int), Hp.cell h148 b29 0 = some (I x153) ∧ (∃ (s154 : Sl), Hp.cell h148 b29 1 = some s154.v ∧ (∃ (x155 : Int), Hp.cell h148 b29 2 = some (I x155) ∧ (c_laws_eqBdd #[(.agg #[(I x150), s151.v, (I x152)]), (.agg #[(I x153), s154.v, (I x155)])] h148 fun v156 h157 => ∃ (c158 : Bool), v156 = (.bool c158) ∧ (bsplit (!c158) (J178 true h157) (J178 (!(c143 == c28)) h157)))))))))))))))))))))))) fun J179 => bsplit (decide (x94 < 0)) (J179 true h93) (∃ (x96 : Int), Hp.cell h93 b55 0 = some (I x96) ∧ (∃ (s97 : Sl), Hp.cell h93 b55 1 = some s97.v ∧ (∃ (x98 : Int), Hp.cell h93 b55 2 = some (I x98) ∧ (∃ (x99 : Int), Hp.cell h93 b29 0 = some (I x99) ∧ (∃ (s100 : Sl), Hp.cell h93 b29 1 = some s100.v ∧ (∃ (x101 : Int), Hp.cell h93 b29 2 = some (I x101) ∧ (c_laws_eqBdd #[(.agg #[(I x96), s97.v, (I x98)]), (.agg #[(I x99), s100.v, (I x101)])] h93 fun v102 h103 => ∃ (c104 : Bool), v102 = (.bool c104) ∧ (bsplit (!c104) (J179 true h103) (J179 (!(c54 == c28)) h103)))))))))))))))))))))) fun J180 => ∃ (x61 : Int), Hp.cell h59 b55 0 = some (I x61) ∧ (∃ (s62 : Sl), Hp.cell h59 b55 1 = some s62.v ∧ (∃ (x63 : Int), Hp.cell h59 b55 2 = some (I x63) ∧ (∃ (x64 : Int), Hp.cell h59 b29 0 = some (I x64) ∧ (∃ (s65 : Sl), Hp.cell h59 b29 1 = some s65.v ∧ (∃ (x66 : Int), Hp.cell h59 b29 2 = some (I x66) ∧ (c_laws_eqBdd #[(.agg #[(I x61), s62.v, (I x63)]), (.agg #[(I x64), s65.v, (I x66)])] h59 fun v67 h68 => ∃ (c69 : Bool), v67 = (.bool c69) ∧ (bsplit (!c69) (J180 true h68) (J180 (!(c54 == c28)) h68))))))))))))))))))))))
theorem E_laws_FnExactCnfSet (x1 : Int) (s2 : Sl) (h : Hp) (R : Value → Hp → Prop) : ABd PR Try.f10 A_laws_FnExactCnfSet #[(.agg #[(I x1), s2.v])] h R = F_laws_FnExactCnfSet x1 s2 h R := by kernel_rfl
theorem O_laws_FnExactCnfSet : okF PR 10 = true := by kernel_rfl
theorem B_laws_FnExactCnfSet : Try.f10.body.isSome = true := by kernel_rfl
theorem R_laws_FnExactCnfSet {x1 : Int} {s2 : Sl} {h : Hp} {R : Value → Hp → Prop} (e : F_laws_FnExactCnfSet x1 s2 h R) : c_laws_FnExactCnfSet #[(.agg #[(I x1), s2.v])] h R :=
  acalls mixed Try.func10 B_laws_FnExactCnfSet O_laws_FnExactCnfSet A_laws_FnExactCnfSet (by kernel_rfl) ((E_laws_FnExactCnfSet x1 s2 h R).mpr e)

end Go.Lead
