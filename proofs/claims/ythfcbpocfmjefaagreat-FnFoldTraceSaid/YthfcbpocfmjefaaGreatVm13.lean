/- The abstract walk, part 13: shifts and bits of whole numbers that are not negative; no statement of the program. -/
import Derived.Test.YthfcbpocfmjefaaGreatVm12
namespace Go.Lead
open Go
set_option linter.unusedVariables false
theorem ail {n:Int} (h1:0<=n) (h2:n<=9223372036854775807):IntKind.wrap .u64 n=n:=by
 rw [IntKind.wrap_u64];omega
theorem cY {n:Nat} (h2:n<=9223372036854775807):IntKind.wrap .u64 (n:Int)=n:=ail (by omega) (by omega)
theorem jI {c n:Nat} (hn:n<=64):oU (c:Int) (n:Int)=((c/2^n:Nat):Int):=by
 unfold oU
 have h1:min (Int.toNat (n:Int)) IntKind.i64.bits=n:=by simp [IntKind.bits];omega
 rw [h1,Int.fdiv_eq_ediv_of_nonneg _ (Int.pow_nonneg (by decide))]
 simp
theorem pV {n:Nat} (hn:n<=62):2^n<=4611686018427387904:=by
 have:=Nat.pow_le_pow_right (n:=2) (by omega) hn
 simpa using this
theorem jj {a n:Nat} (hn:n<=64) (h:a*2^n<=9223372036854775807):aA (a:Int) (n:Int)=((a*2^n:Nat):Int):=by
 unfold aA
 have h1:min (Int.toNat (n:Int)) IntKind.i64.bits=n:=by simp [IntKind.bits];omega
 rw [h1]
 have h2:(a:Int)*2^n=((a*2^n:Nat):Int):=by simp
 rw [h2];exact fW h
theorem cw {n:Nat} (hn:n<=62):aA 1 (n:Int)=((2^n:Nat):Int):=by
 have h:=pV hn
 have:=jj (a:=1) (n:=n) (by omega) (by omega)
 simpa using this
theorem Bg {a b:Nat} (ha:a<9223372036854775808) (hb:b<9223372036854775808):uH (a:Int) (b:Int)=((a&&&b:Nat):Int):=by
 show IntKind.i64.wrap _=_
 have h1:(BitVec.ofInt IntKind.i64.bits (a:Int)&&&BitVec.ofInt IntKind.i64.bits (b:Int)).toNat=a&&&b:=by
  show (BitVec.ofInt 64 (a:Int)&&&BitVec.ofInt 64 (b:Int)).toNat=a&&&b
  rw [BitVec.ofInt_natCast,BitVec.ofInt_natCast,BitVec.toNat_and,BitVec.toNat_ofNat,BitVec.toNat_ofNat,Nat.mod_eq_of_lt (by omega),Nat.mod_eq_of_lt (by omega)]
 rw [h1]
 exact fW (by have:=Nat.and_le_left (n:=a) (m:=b);omega)
theorem E1 {a b:Nat} (ha:a<9223372036854775808) (hb:b<9223372036854775808):orW (a:Int) (b:Int)=((a|||b:Nat):Int):=by
 show IntKind.i64.wrap _=_
 have h1:(BitVec.ofInt IntKind.i64.bits (a:Int)|||BitVec.ofInt IntKind.i64.bits (b:Int)).toNat=a|||b:=by
  show (BitVec.ofInt 64 (a:Int)|||BitVec.ofInt 64 (b:Int)).toNat=a|||b
  rw [BitVec.ofInt_natCast,BitVec.ofInt_natCast,BitVec.toNat_or,BitVec.toNat_ofNat,BitVec.toNat_ofNat,Nat.mod_eq_of_lt (by omega),Nat.mod_eq_of_lt (by omega)]
 rw [h1]
 exact fW (by have:=Nat.or_lt_two_pow (n:=63) (x:=a) (y:=b) (by omega) (by omega);omega)
theorem RW {a b:Nat} (ha:a<9223372036854775808) (hb:b<9223372036854775808):acU (a:Int) (b:Int)=((a^^^b:Nat):Int):=by
 show IntKind.i64.wrap _=_
 have h1:(BitVec.ofInt IntKind.i64.bits (a:Int)^^^BitVec.ofInt IntKind.i64.bits (b:Int)).toNat=a^^^b:=by
  show (BitVec.ofInt 64 (a:Int)^^^BitVec.ofInt 64 (b:Int)).toNat=a^^^b
  rw [BitVec.ofInt_natCast,BitVec.ofInt_natCast,BitVec.toNat_xor,BitVec.toNat_ofNat,BitVec.toNat_ofNat,Nat.mod_eq_of_lt (by omega),Nat.mod_eq_of_lt (by omega)]
 rw [h1]
 exact fW (by have:=Nat.xor_lt_two_pow (n:=63) (x:=a) (y:=b) (by omega) (by omega);omega)
theorem act {a:Nat} (ha:a<9223372036854775808):uH (a:Int) 1=((a%2:Nat):Int):=by
 have:=Bg (b:=1) ha (by decide)
 rwa [Nat.and_one_is_mod]at this
theorem agV (c n:Nat):c/2^n%2=if c.testBit n then 1 else 0:=by
 rw [Nat.testBit_eq_decide_div_mod_eq]
 have:=Nat.mod_two_eq_zero_or_one (c/2^n)
 rcases this with h|h<;>simp [h]
theorem Mp (a:Nat):Int.tmod (a:Int) 2=((a%2:Nat):Int):=by
 have:=Int.ofNat_tmod a 2
 simpa using this.symm
end Go.Lead
