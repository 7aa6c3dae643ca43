/- The abstract walk, part 13: shifts and bits of whole numbers that are not negative; no statement of the program. -/
import Derived.Test.YthfcbpocfmjefaaGreatVm12
namespace Go.Lead
open Go
set_option linter.unusedVariables false
theorem aiE {n:Int} (h1:0<=n) (h2:n<=9223372036854775807):IntKind.wrap .u64 n=n:=by
 rw [IntKind.wrap_u64];omega
theorem cZ {n:Nat} (h2:n<=9223372036854775807):IntKind.wrap .u64 (n:Int)=n:=aiE (by omega) (by omega)
theorem jF {c n:Nat} (hn:n<=64):oM (c:Int) (n:Int)=((c/2^n:Nat):Int):=by
 unfold oM
 have h1:min (Int.toNat (n:Int)) IntKind.i64.bits=n:=by simp [IntKind.bits];omega
 rw [h1,Int.fdiv_eq_ediv_of_nonneg _ (Int.pow_nonneg (by decide))]
 simp
theorem qa {n:Nat} (hn:n<=62):2^n<=4611686018427387904:=by
 have:=Nat.pow_le_pow_right (n:=2) (by omega) hn
 simpa using this
theorem jk {a n:Nat} (hn:n<=64) (h:a*2^n<=9223372036854775807):aA (a:Int) (n:Int)=((a*2^n:Nat):Int):=by
 unfold aA
 have h1:min (Int.toNat (n:Int)) IntKind.i64.bits=n:=by simp [IntKind.bits];omega
 rw [h1]
 have h2:(a:Int)*2^n=((a*2^n:Nat):Int):=by simp
 rw [h2];exact fV h
theorem cw {n:Nat} (hn:n<=62):aA 1 (n:Int)=((2^n:Nat):Int):=by
 have h:=qa hn
 have:=jk (a:=1) (n:=n) (by omega) (by omega)
 simpa using this
theorem Bc {a b:Nat} (ha:a<9223372036854775808) (hb:b<9223372036854775808):uz (a:Int) (b:Int)=((a&&&b:Nat):Int):=by
 show IntKind.i64.wrap _=_
 have h1:(BitVec.ofInt IntKind.i64.bits (a:Int)&&&BitVec.ofInt IntKind.i64.bits (b:Int)).toNat=a&&&b:=by
  show (BitVec.ofInt 64 (a:Int)&&&BitVec.ofInt 64 (b:Int)).toNat=a&&&b
  rw [BitVec.ofInt_natCast,BitVec.ofInt_natCast,BitVec.toNat_and,BitVec.toNat_ofNat,BitVec.toNat_ofNat,Nat.mod_eq_of_lt (by omega),Nat.mod_eq_of_lt (by omega)]
 rw [h1]
 exact fV (by have:=Nat.and_le_left (n:=a) (m:=b);omega)
theorem Ef {a b:Nat} (ha:a<9223372036854775808) (hb:b<9223372036854775808):orW (a:Int) (b:Int)=((a|||b:Nat):Int):=by
 show IntKind.i64.wrap _=_
 have h1:(BitVec.ofInt IntKind.i64.bits (a:Int)|||BitVec.ofInt IntKind.i64.bits (b:Int)).toNat=a|||b:=by
  show (BitVec.ofInt 64 (a:Int)|||BitVec.ofInt 64 (b:Int)).toNat=a|||b
  rw [BitVec.ofInt_natCast,BitVec.ofInt_natCast,BitVec.toNat_or,BitVec.toNat_ofNat,BitVec.toNat_ofNat,Nat.mod_eq_of_lt (by omega),Nat.mod_eq_of_lt (by omega)]
 rw [h1]
 exact fV (by have:=Nat.or_lt_two_pow (n:=63) (x:=a) (y:=b) (by omega) (by omega);omega)
theorem Sc {a b:Nat} (ha:a<9223372036854775808) (hb:b<9223372036854775808):adm (a:Int) (b:Int)=((a^^^b:Nat):Int):=by
 show IntKind.i64.wrap _=_
 have h1:(BitVec.ofInt IntKind.i64.bits (a:Int)^^^BitVec.ofInt IntKind.i64.bits (b:Int)).toNat=a^^^b:=by
  show (BitVec.ofInt 64 (a:Int)^^^BitVec.ofInt 64 (b:Int)).toNat=a^^^b
  rw [BitVec.ofInt_natCast,BitVec.ofInt_natCast,BitVec.toNat_xor,BitVec.toNat_ofNat,BitVec.toNat_ofNat,Nat.mod_eq_of_lt (by omega),Nat.mod_eq_of_lt (by omega)]
 rw [h1]
 exact fV (by have:=Nat.xor_lt_two_pow (n:=63) (x:=a) (y:=b) (by omega) (by omega);omega)
theorem abs {a:Nat} (ha:a<9223372036854775808):uz (a:Int) 1=((a%2:Nat):Int):=by
 have:=Bc (b:=1) ha (by decide)
 rwa [Nat.and_one_is_mod]at this
theorem ahr (c n:Nat):c/2^n%2=if c.testBit n then 1 else 0:=by
 rw [Nat.testBit_eq_decide_div_mod_eq]
 have:=Nat.mod_two_eq_zero_or_one (c/2^n)
 rcases this with h|h<;>simp [h]
theorem LK (a:Nat):Int.tmod (a:Int) 2=((a%2:Nat):Int):=by
 have:=Int.ofNat_tmod a 2
 simpa using this.symm
end Go.Lead
